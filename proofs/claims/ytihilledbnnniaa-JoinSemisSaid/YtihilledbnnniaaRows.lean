/-
  No cell of these rows narrows 'for every input' (looked for: loops, veiled, ifaces, maps, wideKeys, modest, calm, conditions, laid).
  DERIVED. THE GIVEN ROWS OF THIS SEAT. 8 by the template 'for every input the law returns true; each argument reads behind the call as it read before'; 0 by the template 'total and deterministic' (their statements: YtihilledbnnniaaTotals.lean).
  GIVEN WITH THE SEED: the statements are not yours to turn. If you find one false, say at which input.
  Laid BY PROGRAM, IN A SANDBOX (cutbox-rows.mjs): the forced cells as the released guide's own fill.sh prints them over the translation a97894a03c288716… (all of the seat's roots in one cut). By AI agents, Wed Nov 11 2026. No macro, syntax, notation, axiom, sorry.
-/
import Derived.Test.YtihilledbnnniaaChecked
import GoSem.Claim
import GoSem.ClaimJoined
import GoSem.ClaimMapViews
import Derived.JoinedTies
import Derived.KernelRfl
namespace Go.Proofs.Ytihilledbnnniaa
/- THE CELL 'sum', in the pinned program and in every row, IS THE sha256 OF THE DUMP (.gsa) THAT YtihilledbnnniaaProg.lean LOADS. Nothing in Lean hashes anything: it is a label: what it is worth is what the hold of that sum in a sandbox is worth. -/
noncomputable def Try.pinned : Pinned := { name := "ytihilledbnnniaa", sum := "a97894a03c2887163f797eb89d6f498fbb013ee866a0e2a6ef602a1c0624d89e", checked := Try.checked }
namespace Rows
def none {H : Type} : Left H := { results := [], args := [] }

/-- 'ergolaw07.IndexProbes': WHATEVER THE INPUT: true; the input reads as it did. -/
def indexProbesSpec : ChangeSpec := { name := "indexProbes", fn := fun _ => fun
  | [d1, d2, d3, d4] => { results := [.lit (.bool true)], args := [d1, d2, d3, d4] }
  | _ => none }
def indexProbesRow : OpenClaim := { program := "ytihilledbnnniaa", sum := "a97894a03c2887163f797eb89d6f498fbb013ee866a0e2a6ef602a1c0624d89e", func := "ergo/ergolaw07.IndexProbes", spec := "indexProbes", unfollowed := true, recurses := true, apart := false }
def IndexProbesSaid : Prop := indexProbesRow.holds Try.pinned (OpenSpec.ofChange indexProbesSpec)

/-- ITS FALSE NEIGHBOUR: 'it returns false'. Refute it at one input. -/
def indexProbesWrong : ChangeSpec := { name := "indexProbes", fn := fun _ => fun
  | [d1, d2, d3, d4] => { results := [.lit (.bool false)], args := [d1, d2, d3, d4] }
  | _ => none }
def IndexProbesWrongFalsely : Prop := indexProbesRow.holds Try.pinned (OpenSpec.ofChange indexProbesWrong)

/-- 'ergolaw07.IndexMany': WHATEVER THE INPUT: true; the input reads as it did. -/
def indexManySpec : ChangeSpec := { name := "indexMany", fn := fun _ => fun
  | [d1, d2, d3, d4] => { results := [.lit (.bool true)], args := [d1, d2, d3, d4] }
  | _ => none }
def indexManyRow : OpenClaim := { program := "ytihilledbnnniaa", sum := "a97894a03c2887163f797eb89d6f498fbb013ee866a0e2a6ef602a1c0624d89e", func := "ergo/ergolaw07.IndexMany", spec := "indexMany", unfollowed := true, recurses := true, apart := false }
def IndexManySaid : Prop := indexManyRow.holds Try.pinned (OpenSpec.ofChange indexManySpec)

/-- ITS FALSE NEIGHBOUR: 'it returns false'. Refute it at one input. -/
def indexManyWrong : ChangeSpec := { name := "indexMany", fn := fun _ => fun
  | [d1, d2, d3, d4] => { results := [.lit (.bool false)], args := [d1, d2, d3, d4] }
  | _ => none }
def IndexManyWrongFalsely : Prop := indexManyRow.holds Try.pinned (OpenSpec.ofChange indexManyWrong)

/-- 'ergolaw07.IndexBare': WHATEVER THE INPUT: true; the input reads as it did. -/
def indexBareSpec : ChangeSpec := { name := "indexBare", fn := fun _ => fun
  | [d1, d2, d3] => { results := [.lit (.bool true)], args := [d1, d2, d3] }
  | _ => none }
def indexBareRow : OpenClaim := { program := "ytihilledbnnniaa", sum := "a97894a03c2887163f797eb89d6f498fbb013ee866a0e2a6ef602a1c0624d89e", func := "ergo/ergolaw07.IndexBare", spec := "indexBare", unfollowed := true, recurses := true, apart := false }
def IndexBareSaid : Prop := indexBareRow.holds Try.pinned (OpenSpec.ofChange indexBareSpec)

/-- ITS FALSE NEIGHBOUR: 'it returns false'. Refute it at one input. -/
def indexBareWrong : ChangeSpec := { name := "indexBare", fn := fun _ => fun
  | [d1, d2, d3] => { results := [.lit (.bool false)], args := [d1, d2, d3] }
  | _ => none }
def IndexBareWrongFalsely : Prop := indexBareRow.holds Try.pinned (OpenSpec.ofChange indexBareWrong)

/-- 'ergolaw07.IndexWhole': WHATEVER THE INPUT: true; the input reads as it did. -/
def indexWholeSpec : ChangeSpec := { name := "indexWhole", fn := fun _ => fun
  | [d1, d2, d3] => { results := [.lit (.bool true)], args := [d1, d2, d3] }
  | _ => none }
def indexWholeRow : OpenClaim := { program := "ytihilledbnnniaa", sum := "a97894a03c2887163f797eb89d6f498fbb013ee866a0e2a6ef602a1c0624d89e", func := "ergo/ergolaw07.IndexWhole", spec := "indexWhole", unfollowed := true, recurses := true, apart := false }
def IndexWholeSaid : Prop := indexWholeRow.holds Try.pinned (OpenSpec.ofChange indexWholeSpec)

/-- ITS FALSE NEIGHBOUR: 'it returns false'. Refute it at one input. -/
def indexWholeWrong : ChangeSpec := { name := "indexWhole", fn := fun _ => fun
  | [d1, d2, d3] => { results := [.lit (.bool false)], args := [d1, d2, d3] }
  | _ => none }
def IndexWholeWrongFalsely : Prop := indexWholeRow.holds Try.pinned (OpenSpec.ofChange indexWholeWrong)

/-- 'ergolaw08.JoinSemis': WHATEVER THE INPUT: true; the input reads as it did. -/
def joinSemisSpec : ChangeSpec := { name := "joinSemis", fn := fun _ => fun
  | [d] => { results := [.lit (.bool true)], args := [d] }
  | _ => none }
def joinSemisRow : OpenClaim := { program := "ytihilledbnnniaa", sum := "a97894a03c2887163f797eb89d6f498fbb013ee866a0e2a6ef602a1c0624d89e", func := "ergo/ergolaw08.JoinSemis", spec := "joinSemis", unfollowed := true, recurses := true, apart := false }
def JoinSemisSaid : Prop := joinSemisRow.holds Try.pinned (OpenSpec.ofChange joinSemisSpec)

/-- ITS FALSE NEIGHBOUR: 'it returns false'. Refute it at one input. -/
def joinSemisWrong : ChangeSpec := { name := "joinSemis", fn := fun _ => fun
  | [d] => { results := [.lit (.bool false)], args := [d] }
  | _ => none }
def JoinSemisWrongFalsely : Prop := joinSemisRow.holds Try.pinned (OpenSpec.ofChange joinSemisWrong)

/-- 'ergolaw09.GroupMakes': WHATEVER THE INPUT: true; the input reads as it did. -/
def groupMakesSpec : ChangeSpec := { name := "groupMakes", fn := fun _ => fun
  | [d1, d2, d3] => { results := [.lit (.bool true)], args := [d1, d2, d3] }
  | _ => none }
def groupMakesRow : OpenClaim := { program := "ytihilledbnnniaa", sum := "a97894a03c2887163f797eb89d6f498fbb013ee866a0e2a6ef602a1c0624d89e", func := "ergo/ergolaw09.GroupMakes", spec := "groupMakes", unfollowed := true, recurses := true, apart := false }
def GroupMakesSaid : Prop := groupMakesRow.holds Try.pinned (OpenSpec.ofChange groupMakesSpec)

/-- ITS FALSE NEIGHBOUR: 'it returns false'. Refute it at one input. -/
def groupMakesWrong : ChangeSpec := { name := "groupMakes", fn := fun _ => fun
  | [d1, d2, d3] => { results := [.lit (.bool false)], args := [d1, d2, d3] }
  | _ => none }
def GroupMakesWrongFalsely : Prop := groupMakesRow.holds Try.pinned (OpenSpec.ofChange groupMakesWrong)

/-- 'ergolaw09.GroupBy': WHATEVER THE INPUT: true; the input reads as it did. -/
def groupBySpec : ChangeSpec := { name := "groupBy", fn := fun _ => fun
  | [d1, d2, d3, d4, d5] => { results := [.lit (.bool true)], args := [d1, d2, d3, d4, d5] }
  | _ => none }
def groupByRow : OpenClaim := { program := "ytihilledbnnniaa", sum := "a97894a03c2887163f797eb89d6f498fbb013ee866a0e2a6ef602a1c0624d89e", func := "ergo/ergolaw09.GroupBy", spec := "groupBy", unfollowed := true, recurses := true, apart := false }
def GroupBySaid : Prop := groupByRow.holds Try.pinned (OpenSpec.ofChange groupBySpec)

/-- ITS FALSE NEIGHBOUR: 'it returns false'. Refute it at one input. -/
def groupByWrong : ChangeSpec := { name := "groupBy", fn := fun _ => fun
  | [d1, d2, d3, d4, d5] => { results := [.lit (.bool false)], args := [d1, d2, d3, d4, d5] }
  | _ => none }
def GroupByWrongFalsely : Prop := groupByRow.holds Try.pinned (OpenSpec.ofChange groupByWrong)

/-- 'ergolaw09.GroupCounts': WHATEVER THE INPUT: true; the input reads as it did. -/
def groupCountsSpec : ChangeSpec := { name := "groupCounts", fn := fun _ => fun
  | [d1, d2, d3] => { results := [.lit (.bool true)], args := [d1, d2, d3] }
  | _ => none }
def groupCountsRow : OpenClaim := { program := "ytihilledbnnniaa", sum := "a97894a03c2887163f797eb89d6f498fbb013ee866a0e2a6ef602a1c0624d89e", func := "ergo/ergolaw09.GroupCounts", spec := "groupCounts", unfollowed := true, recurses := true, apart := false }
def GroupCountsSaid : Prop := groupCountsRow.holds Try.pinned (OpenSpec.ofChange groupCountsSpec)

/-- ITS FALSE NEIGHBOUR: 'it returns false'. Refute it at one input. -/
def groupCountsWrong : ChangeSpec := { name := "groupCounts", fn := fun _ => fun
  | [d1, d2, d3] => { results := [.lit (.bool false)], args := [d1, d2, d3] }
  | _ => none }
def GroupCountsWrongFalsely : Prop := groupCountsRow.holds Try.pinned (OpenSpec.ofChange groupCountsWrong)

/- THE SECOND FORM. 'bulk': how many values and letters a reading holds, each counted each time it is reached (what is shared counts as often as it is met; a slice's spare places count too). A statement '..UptoSaid' is the law's where the arguments, and the package variables that the reading takes, are together of bulk at most 1048576: NARROWER than '..Said'. Prove '..Said' where nothing that the law and all that it calls make is longer than what came in: it says more and counts as full. Else prove '..UptoSaid'. A law counts once. -/
mutual
def uptoBulk {H : Type} : DataW H → Nat
  | .lit (.string bytes) => bytes.length + 1
  | .lit _ => 1
  | .nil => 1
  | .ptr d => uptoBulk d + 1
  | .slice elems spare => uptoBulkAll elems + uptoBulkAll spare + 1
  | .agg parts => uptoBulkAll parts + 1
  | .iface _ d => uptoBulk d + 1
  | .map entries => uptoBulkEntries entries + 1
  | .held _ => 1
def uptoBulkAll {H : Type} : List (DataW H) → Nat
  | [] => 0
  | d :: r => uptoBulk d + uptoBulkAll r
def uptoBulkEntries {H : Type} : List (Lit × DataW H) → Nat
  | [] => 0
  | x :: r => uptoBulkEntry x + uptoBulkEntries r
def uptoBulkEntry {H : Type} : Lit × DataW H → Nat
  | (.string bytes, d) => bytes.length + uptoBulk d + 1
  | (_, d) => uptoBulk d + 1
 end
def uptoSmall : (H : Type) → List (DataW H) → Bool := fun _ ds => decide (uptoBulkAll ds ≤ 1048576)
def OpenSpec.upto (s : _root_.Go.ChangeSpec) : _root_.Go.OpenSpec := { _root_.Go.OpenSpec.ofChange s with cond := some uptoSmall }

/-- 'ergolaw07.IndexProbes', WHERE WHAT IT READS IS OF BULK AT MOST 1048576: true; the input reads as it did. -/
def indexProbesUptoRow : OpenClaim := { program := "ytihilledbnnniaa", sum := "a97894a03c2887163f797eb89d6f498fbb013ee866a0e2a6ef602a1c0624d89e", func := "ergo/ergolaw07.IndexProbes", spec := "indexProbes", unfollowed := true, recurses := true, apart := false, narrowed := true }
def IndexProbesUptoSaid : Prop := indexProbesUptoRow.holds Try.pinned (OpenSpec.upto indexProbesSpec)

/-- 'ergolaw07.IndexMany', WHERE WHAT IT READS IS OF BULK AT MOST 1048576: true; the input reads as it did. -/
def indexManyUptoRow : OpenClaim := { program := "ytihilledbnnniaa", sum := "a97894a03c2887163f797eb89d6f498fbb013ee866a0e2a6ef602a1c0624d89e", func := "ergo/ergolaw07.IndexMany", spec := "indexMany", unfollowed := true, recurses := true, apart := false, narrowed := true }
def IndexManyUptoSaid : Prop := indexManyUptoRow.holds Try.pinned (OpenSpec.upto indexManySpec)

/-- 'ergolaw07.IndexBare', WHERE WHAT IT READS IS OF BULK AT MOST 1048576: true; the input reads as it did. -/
def indexBareUptoRow : OpenClaim := { program := "ytihilledbnnniaa", sum := "a97894a03c2887163f797eb89d6f498fbb013ee866a0e2a6ef602a1c0624d89e", func := "ergo/ergolaw07.IndexBare", spec := "indexBare", unfollowed := true, recurses := true, apart := false, narrowed := true }
def IndexBareUptoSaid : Prop := indexBareUptoRow.holds Try.pinned (OpenSpec.upto indexBareSpec)

/-- 'ergolaw07.IndexWhole', WHERE WHAT IT READS IS OF BULK AT MOST 1048576: true; the input reads as it did. -/
def indexWholeUptoRow : OpenClaim := { program := "ytihilledbnnniaa", sum := "a97894a03c2887163f797eb89d6f498fbb013ee866a0e2a6ef602a1c0624d89e", func := "ergo/ergolaw07.IndexWhole", spec := "indexWhole", unfollowed := true, recurses := true, apart := false, narrowed := true }
def IndexWholeUptoSaid : Prop := indexWholeUptoRow.holds Try.pinned (OpenSpec.upto indexWholeSpec)

/-- 'ergolaw08.JoinSemis', WHERE WHAT IT READS IS OF BULK AT MOST 1048576: true; the input reads as it did. -/
def joinSemisUptoRow : OpenClaim := { program := "ytihilledbnnniaa", sum := "a97894a03c2887163f797eb89d6f498fbb013ee866a0e2a6ef602a1c0624d89e", func := "ergo/ergolaw08.JoinSemis", spec := "joinSemis", unfollowed := true, recurses := true, apart := false, narrowed := true }
def JoinSemisUptoSaid : Prop := joinSemisUptoRow.holds Try.pinned (OpenSpec.upto joinSemisSpec)

/-- 'ergolaw09.GroupMakes', WHERE WHAT IT READS IS OF BULK AT MOST 1048576: true; the input reads as it did. -/
def groupMakesUptoRow : OpenClaim := { program := "ytihilledbnnniaa", sum := "a97894a03c2887163f797eb89d6f498fbb013ee866a0e2a6ef602a1c0624d89e", func := "ergo/ergolaw09.GroupMakes", spec := "groupMakes", unfollowed := true, recurses := true, apart := false, narrowed := true }
def GroupMakesUptoSaid : Prop := groupMakesUptoRow.holds Try.pinned (OpenSpec.upto groupMakesSpec)

/-- 'ergolaw09.GroupBy', WHERE WHAT IT READS IS OF BULK AT MOST 1048576: true; the input reads as it did. -/
def groupByUptoRow : OpenClaim := { program := "ytihilledbnnniaa", sum := "a97894a03c2887163f797eb89d6f498fbb013ee866a0e2a6ef602a1c0624d89e", func := "ergo/ergolaw09.GroupBy", spec := "groupBy", unfollowed := true, recurses := true, apart := false, narrowed := true }
def GroupByUptoSaid : Prop := groupByUptoRow.holds Try.pinned (OpenSpec.upto groupBySpec)

/-- 'ergolaw09.GroupCounts', WHERE WHAT IT READS IS OF BULK AT MOST 1048576: true; the input reads as it did. -/
def groupCountsUptoRow : OpenClaim := { program := "ytihilledbnnniaa", sum := "a97894a03c2887163f797eb89d6f498fbb013ee866a0e2a6ef602a1c0624d89e", func := "ergo/ergolaw09.GroupCounts", spec := "groupCounts", unfollowed := true, recurses := true, apart := false, narrowed := true }
def GroupCountsUptoSaid : Prop := groupCountsUptoRow.holds Try.pinned (OpenSpec.upto groupCountsSpec)

end Rows
end Go.Proofs.Ytihilledbnnniaa
