/-
  No cell of these rows narrows 'for every input' (looked for: loops, veiled, ifaces, maps, wideKeys, modest, calm, conditions, laid).
  DERIVED. THE GIVEN ROWS OF THIS SEAT. 7 by the template 'for every input the law returns true; each argument reads behind the call as it read before'; 0 by the template 'total and deterministic' (their statements: YtalbgdbphdhhaaaTotals.lean).
  GIVEN WITH THE SEED: the statements are not yours to turn. If you find one false, say at which input.
  Laid BY PROGRAM, IN A SANDBOX (cutbox-rows.mjs): the forced cells as the released guide's own fill.sh prints them over the translation 49162f2626fc428b… (all of the seat's roots in one cut). By AI agents, Wed Nov 11 2026. No macro, syntax, notation, axiom, sorry.
-/
import Derived.Test.YtalbgdbphdhhaaaChecked
import GoSem.Claim
import GoSem.ClaimJoined
import GoSem.ClaimMapViews
import Derived.JoinedTies
import Derived.KernelRfl
namespace Go.Proofs.Ytalbgdbphdhhaaa
/- THE CELL 'sum', in the pinned program and in every row, IS THE sha256 OF THE DUMP (.gsa) THAT YtalbgdbphdhhaaaProg.lean LOADS. Nothing in Lean hashes anything: it is a label: what it is worth is what the hold of that sum in a sandbox is worth. -/
noncomputable def Try.pinned : Pinned := { name := "ytalbgdbphdhhaaa", sum := "49162f2626fc428bc869044a4522b103e97f13afa5d489c90dc1258c7b3b9498", checked := Try.checked }
namespace Rows
def none {H : Type} : Left H := { results := [], args := [] }

/-- 'ergolaw10.BestPuts': WHATEVER THE INPUT: true; the input reads as it did. -/
def bestPutsSpec : ChangeSpec := { name := "bestPuts", fn := fun _ => fun
  | [d1, d2, d3, d4] => { results := [.lit (.bool true)], args := [d1, d2, d3, d4] }
  | _ => none }
def bestPutsRow : OpenClaim := { program := "ytalbgdbphdhhaaa", sum := "49162f2626fc428bc869044a4522b103e97f13afa5d489c90dc1258c7b3b9498", func := "ergo/ergolaw10.BestPuts", spec := "bestPuts", unfollowed := true, recurses := true, apart := false }
def BestPutsSaid : Prop := bestPutsRow.holds Try.pinned (OpenSpec.ofChange bestPutsSpec)

/-- ITS FALSE NEIGHBOUR: 'it returns false'. Refute it at one input. -/
def bestPutsWrong : ChangeSpec := { name := "bestPuts", fn := fun _ => fun
  | [d1, d2, d3, d4] => { results := [.lit (.bool false)], args := [d1, d2, d3, d4] }
  | _ => none }
def BestPutsWrongFalsely : Prop := bestPutsRow.holds Try.pinned (OpenSpec.ofChange bestPutsWrong)

/-- 'ergolaw05.SegmentTurns': WHATEVER THE INPUT: true; the input reads as it did. -/
def segmentTurnsSpec : ChangeSpec := { name := "segmentTurns", fn := fun _ => fun
  | [d1, d2, d3] => { results := [.lit (.bool true)], args := [d1, d2, d3] }
  | _ => none }
def segmentTurnsRow : OpenClaim := { program := "ytalbgdbphdhhaaa", sum := "49162f2626fc428bc869044a4522b103e97f13afa5d489c90dc1258c7b3b9498", func := "ergo/ergolaw05.SegmentTurns", spec := "segmentTurns", unfollowed := true, recurses := true, apart := false }
def SegmentTurnsSaid : Prop := segmentTurnsRow.holds Try.pinned (OpenSpec.ofChange segmentTurnsSpec)

/-- ITS FALSE NEIGHBOUR: 'it returns false'. Refute it at one input. -/
def segmentTurnsWrong : ChangeSpec := { name := "segmentTurns", fn := fun _ => fun
  | [d1, d2, d3] => { results := [.lit (.bool false)], args := [d1, d2, d3] }
  | _ => none }
def SegmentTurnsWrongFalsely : Prop := segmentTurnsRow.holds Try.pinned (OpenSpec.ofChange segmentTurnsWrong)

/-- 'ergolaw10.BestAdds': WHATEVER THE INPUT: true; the input reads as it did. -/
def bestAddsSpec : ChangeSpec := { name := "bestAdds", fn := fun _ => fun
  | [d1, d2, d3] => { results := [.lit (.bool true)], args := [d1, d2, d3] }
  | _ => none }
def bestAddsRow : OpenClaim := { program := "ytalbgdbphdhhaaa", sum := "49162f2626fc428bc869044a4522b103e97f13afa5d489c90dc1258c7b3b9498", func := "ergo/ergolaw10.BestAdds", spec := "bestAdds", unfollowed := true, recurses := true, apart := false }
def BestAddsSaid : Prop := bestAddsRow.holds Try.pinned (OpenSpec.ofChange bestAddsSpec)

/-- ITS FALSE NEIGHBOUR: 'it returns false'. Refute it at one input. -/
def bestAddsWrong : ChangeSpec := { name := "bestAdds", fn := fun _ => fun
  | [d1, d2, d3] => { results := [.lit (.bool false)], args := [d1, d2, d3] }
  | _ => none }
def BestAddsWrongFalsely : Prop := bestAddsRow.holds Try.pinned (OpenSpec.ofChange bestAddsWrong)

/-- 'ergolaw10.BestOrders': WHATEVER THE INPUT: true; the input reads as it did. -/
def bestOrdersSpec : ChangeSpec := { name := "bestOrders", fn := fun _ => fun
  | [d1, d2, d3, d4, d5] => { results := [.lit (.bool true)], args := [d1, d2, d3, d4, d5] }
  | _ => none }
def bestOrdersRow : OpenClaim := { program := "ytalbgdbphdhhaaa", sum := "49162f2626fc428bc869044a4522b103e97f13afa5d489c90dc1258c7b3b9498", func := "ergo/ergolaw10.BestOrders", spec := "bestOrders", unfollowed := true, recurses := true, apart := false }
def BestOrdersSaid : Prop := bestOrdersRow.holds Try.pinned (OpenSpec.ofChange bestOrdersSpec)

/-- ITS FALSE NEIGHBOUR: 'it returns false'. Refute it at one input. -/
def bestOrdersWrong : ChangeSpec := { name := "bestOrders", fn := fun _ => fun
  | [d1, d2, d3, d4, d5] => { results := [.lit (.bool false)], args := [d1, d2, d3, d4, d5] }
  | _ => none }
def BestOrdersWrongFalsely : Prop := bestOrdersRow.holds Try.pinned (OpenSpec.ofChange bestOrdersWrong)

/-- 'ergolaw10.BestAgain': WHATEVER THE INPUT: true; the input reads as it did. -/
def bestAgainSpec : ChangeSpec := { name := "bestAgain", fn := fun _ => fun
  | [d1, d2, d3] => { results := [.lit (.bool true)], args := [d1, d2, d3] }
  | _ => none }
def bestAgainRow : OpenClaim := { program := "ytalbgdbphdhhaaa", sum := "49162f2626fc428bc869044a4522b103e97f13afa5d489c90dc1258c7b3b9498", func := "ergo/ergolaw10.BestAgain", spec := "bestAgain", unfollowed := true, recurses := true, apart := false }
def BestAgainSaid : Prop := bestAgainRow.holds Try.pinned (OpenSpec.ofChange bestAgainSpec)

/-- ITS FALSE NEIGHBOUR: 'it returns false'. Refute it at one input. -/
def bestAgainWrong : ChangeSpec := { name := "bestAgain", fn := fun _ => fun
  | [d1, d2, d3] => { results := [.lit (.bool false)], args := [d1, d2, d3] }
  | _ => none }
def BestAgainWrongFalsely : Prop := bestAgainRow.holds Try.pinned (OpenSpec.ofChange bestAgainWrong)

/-- 'ergolaw05.SegmentOps': WHATEVER THE INPUT: true; the input reads as it did. -/
def segmentOpsSpec : ChangeSpec := { name := "segmentOps", fn := fun _ => fun
  | [d1, d2, d3] => { results := [.lit (.bool true)], args := [d1, d2, d3] }
  | _ => none }
def segmentOpsRow : OpenClaim := { program := "ytalbgdbphdhhaaa", sum := "49162f2626fc428bc869044a4522b103e97f13afa5d489c90dc1258c7b3b9498", func := "ergo/ergolaw05.SegmentOps", spec := "segmentOps", unfollowed := true, recurses := true, apart := false }
def SegmentOpsSaid : Prop := segmentOpsRow.holds Try.pinned (OpenSpec.ofChange segmentOpsSpec)

/-- ITS FALSE NEIGHBOUR: 'it returns false'. Refute it at one input. -/
def segmentOpsWrong : ChangeSpec := { name := "segmentOps", fn := fun _ => fun
  | [d1, d2, d3] => { results := [.lit (.bool false)], args := [d1, d2, d3] }
  | _ => none }
def SegmentOpsWrongFalsely : Prop := segmentOpsRow.holds Try.pinned (OpenSpec.ofChange segmentOpsWrong)

/-- 'ergolaw05.SegmentLaws': WHATEVER THE INPUT: true; the input reads as it did. -/
def segmentLawsSpec : ChangeSpec := { name := "segmentLaws", fn := fun _ => fun
  | [d1, d2, d3, d4] => { results := [.lit (.bool true)], args := [d1, d2, d3, d4] }
  | _ => none }
def segmentLawsRow : OpenClaim := { program := "ytalbgdbphdhhaaa", sum := "49162f2626fc428bc869044a4522b103e97f13afa5d489c90dc1258c7b3b9498", func := "ergo/ergolaw05.SegmentLaws", spec := "segmentLaws", unfollowed := true, recurses := true, apart := false }
def SegmentLawsSaid : Prop := segmentLawsRow.holds Try.pinned (OpenSpec.ofChange segmentLawsSpec)

/-- ITS FALSE NEIGHBOUR: 'it returns false'. Refute it at one input. -/
def segmentLawsWrong : ChangeSpec := { name := "segmentLaws", fn := fun _ => fun
  | [d1, d2, d3, d4] => { results := [.lit (.bool false)], args := [d1, d2, d3, d4] }
  | _ => none }
def SegmentLawsWrongFalsely : Prop := segmentLawsRow.holds Try.pinned (OpenSpec.ofChange segmentLawsWrong)

/- THE SECOND FORM. 'bulk': how many values and letters a reading holds, each counted each time it is reached (what is shared counts as often as it is met; a slice's spare places count too). A statement '..UptoSaid' is the law's where the arguments, and the package variables that the reading takes, are together of bulk at most 1048576: NARROWER than '..Said'. Prove '..Said' where nothing that the law and all that it calls make is longer than what came in: it says more and counts as full. Else prove '..UptoSaid'. A law counts once. -/
mutual
def uptoBulk {H : Type} : DataW H → Nat
  | .lit (.string bytes) => bytes.length + 1
  | .lit _ => 1
  | .nil => 1
  | .ptr d => uptoBulk d + 1
  | .slice elems spare => uptoBulkAll elems + uptoBulkAll spare + 1
  | .agg parts => uptoBulkAll parts + 1
  | .iface _ d => uptoBulk d + 1
  | .map entries => uptoBulkEntries entries + 1
  | .held _ => 1
def uptoBulkAll {H : Type} : List (DataW H) → Nat
  | [] => 0
  | d :: r => uptoBulk d + uptoBulkAll r
def uptoBulkEntries {H : Type} : List (Lit × DataW H) → Nat
  | [] => 0
  | x :: r => uptoBulkEntry x + uptoBulkEntries r
def uptoBulkEntry {H : Type} : Lit × DataW H → Nat
  | (.string bytes, d) => bytes.length + uptoBulk d + 1
  | (_, d) => uptoBulk d + 1
 end
def uptoSmall : (H : Type) → List (DataW H) → Bool := fun _ ds => decide (uptoBulkAll ds ≤ 1048576)
def OpenSpec.upto (s : _root_.Go.ChangeSpec) : _root_.Go.OpenSpec := { _root_.Go.OpenSpec.ofChange s with cond := some uptoSmall }

/-- 'ergolaw10.BestPuts', WHERE WHAT IT READS IS OF BULK AT MOST 1048576: true; the input reads as it did. -/
def bestPutsUptoRow : OpenClaim := { program := "ytalbgdbphdhhaaa", sum := "49162f2626fc428bc869044a4522b103e97f13afa5d489c90dc1258c7b3b9498", func := "ergo/ergolaw10.BestPuts", spec := "bestPuts", unfollowed := true, recurses := true, apart := false, narrowed := true }
def BestPutsUptoSaid : Prop := bestPutsUptoRow.holds Try.pinned (OpenSpec.upto bestPutsSpec)

/-- 'ergolaw05.SegmentTurns', WHERE WHAT IT READS IS OF BULK AT MOST 1048576: true; the input reads as it did. -/
def segmentTurnsUptoRow : OpenClaim := { program := "ytalbgdbphdhhaaa", sum := "49162f2626fc428bc869044a4522b103e97f13afa5d489c90dc1258c7b3b9498", func := "ergo/ergolaw05.SegmentTurns", spec := "segmentTurns", unfollowed := true, recurses := true, apart := false, narrowed := true }
def SegmentTurnsUptoSaid : Prop := segmentTurnsUptoRow.holds Try.pinned (OpenSpec.upto segmentTurnsSpec)

/-- 'ergolaw10.BestAdds', WHERE WHAT IT READS IS OF BULK AT MOST 1048576: true; the input reads as it did. -/
def bestAddsUptoRow : OpenClaim := { program := "ytalbgdbphdhhaaa", sum := "49162f2626fc428bc869044a4522b103e97f13afa5d489c90dc1258c7b3b9498", func := "ergo/ergolaw10.BestAdds", spec := "bestAdds", unfollowed := true, recurses := true, apart := false, narrowed := true }
def BestAddsUptoSaid : Prop := bestAddsUptoRow.holds Try.pinned (OpenSpec.upto bestAddsSpec)

/-- 'ergolaw10.BestOrders', WHERE WHAT IT READS IS OF BULK AT MOST 1048576: true; the input reads as it did. -/
def bestOrdersUptoRow : OpenClaim := { program := "ytalbgdbphdhhaaa", sum := "49162f2626fc428bc869044a4522b103e97f13afa5d489c90dc1258c7b3b9498", func := "ergo/ergolaw10.BestOrders", spec := "bestOrders", unfollowed := true, recurses := true, apart := false, narrowed := true }
def BestOrdersUptoSaid : Prop := bestOrdersUptoRow.holds Try.pinned (OpenSpec.upto bestOrdersSpec)

/-- 'ergolaw10.BestAgain', WHERE WHAT IT READS IS OF BULK AT MOST 1048576: true; the input reads as it did. -/
def bestAgainUptoRow : OpenClaim := { program := "ytalbgdbphdhhaaa", sum := "49162f2626fc428bc869044a4522b103e97f13afa5d489c90dc1258c7b3b9498", func := "ergo/ergolaw10.BestAgain", spec := "bestAgain", unfollowed := true, recurses := true, apart := false, narrowed := true }
def BestAgainUptoSaid : Prop := bestAgainUptoRow.holds Try.pinned (OpenSpec.upto bestAgainSpec)

/-- 'ergolaw05.SegmentOps', WHERE WHAT IT READS IS OF BULK AT MOST 1048576: true; the input reads as it did. -/
def segmentOpsUptoRow : OpenClaim := { program := "ytalbgdbphdhhaaa", sum := "49162f2626fc428bc869044a4522b103e97f13afa5d489c90dc1258c7b3b9498", func := "ergo/ergolaw05.SegmentOps", spec := "segmentOps", unfollowed := true, recurses := true, apart := false, narrowed := true }
def SegmentOpsUptoSaid : Prop := segmentOpsUptoRow.holds Try.pinned (OpenSpec.upto segmentOpsSpec)

/-- 'ergolaw05.SegmentLaws', WHERE WHAT IT READS IS OF BULK AT MOST 1048576: true; the input reads as it did. -/
def segmentLawsUptoRow : OpenClaim := { program := "ytalbgdbphdhhaaa", sum := "49162f2626fc428bc869044a4522b103e97f13afa5d489c90dc1258c7b3b9498", func := "ergo/ergolaw05.SegmentLaws", spec := "segmentLaws", unfollowed := true, recurses := true, apart := false, narrowed := true }
def SegmentLawsUptoSaid : Prop := segmentLawsUptoRow.holds Try.pinned (OpenSpec.upto segmentLawsSpec)

end Rows
end Go.Proofs.Ytalbgdbphdhhaaa
