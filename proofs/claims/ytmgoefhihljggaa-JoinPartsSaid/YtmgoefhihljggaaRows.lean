/-
  No cell of these rows narrows 'for every input' (looked for: loops, veiled, ifaces, maps, wideKeys, modest, calm, conditions, laid).
  DERIVED. THE GIVEN ROWS OF THIS SEAT. 4 by the template 'for every input the law returns true; each argument reads behind the call as it read before'; 0 by the template 'total and deterministic' (their statements: YtmgoefhihljggaaTotals.lean).
  GIVEN WITH THE SEED: the statements are not yours to turn. If you find one false, say at which input.
  Laid BY PROGRAM, IN A SANDBOX (cutbox-rows.mjs): the forced cells as the released guide's own fill.sh prints them over the translation c50da34eb0f16f48… (all of the seat's roots in one cut). By AI agents, Wed Nov 11 2026. No macro, syntax, notation, axiom, sorry.
-/
import Derived.Test.YtmgoefhihljggaaChecked
import GoSem.Claim
import GoSem.ClaimJoined
import GoSem.ClaimMapViews
import Derived.JoinedTies
import Derived.KernelRfl
namespace Go.Proofs.Ytmgoefhihljggaa
/- THE CELL 'sum', in the pinned program and in every row, IS THE sha256 OF THE DUMP (.gsa) THAT YtmgoefhihljggaaProg.lean LOADS. Nothing in Lean hashes anything: it is a label: what it is worth is what the hold of that sum in a sandbox is worth. -/
noncomputable def Try.pinned : Pinned := { name := "ytmgoefhihljggaa", sum := "c50da34eb0f16f48c461ca7a79fc03ab28b682a7769a64cd4ab13b3248a5fc2d", checked := Try.checked }
namespace Rows
def none {H : Type} : Left H := { results := [], args := [] }

/-- 'ergolaw08.JoinMany': WHATEVER THE INPUT: true; the input reads as it did. -/
def joinManySpec : ChangeSpec := { name := "joinMany", fn := fun _ => fun
  | [d1, d2, d3] => { results := [.lit (.bool true)], args := [d1, d2, d3] }
  | _ => none }
def joinManyRow : OpenClaim := { program := "ytmgoefhihljggaa", sum := "c50da34eb0f16f48c461ca7a79fc03ab28b682a7769a64cd4ab13b3248a5fc2d", func := "ergo/ergolaw08.JoinMany", spec := "joinMany", unfollowed := true, recurses := true, apart := false }
def JoinManySaid : Prop := joinManyRow.holds Try.pinned (OpenSpec.ofChange joinManySpec)

/-- ITS FALSE NEIGHBOUR: 'it returns false'. Refute it at one input. -/
def joinManyWrong : ChangeSpec := { name := "joinMany", fn := fun _ => fun
  | [d1, d2, d3] => { results := [.lit (.bool false)], args := [d1, d2, d3] }
  | _ => none }
def JoinManyWrongFalsely : Prop := joinManyRow.holds Try.pinned (OpenSpec.ofChange joinManyWrong)

/-- 'ergolaw08.JoinPairs': WHATEVER THE INPUT: true; the input reads as it did. -/
def joinPairsSpec : ChangeSpec := { name := "joinPairs", fn := fun _ => fun
  | [d1, d2] => { results := [.lit (.bool true)], args := [d1, d2] }
  | _ => none }
def joinPairsRow : OpenClaim := { program := "ytmgoefhihljggaa", sum := "c50da34eb0f16f48c461ca7a79fc03ab28b682a7769a64cd4ab13b3248a5fc2d", func := "ergo/ergolaw08.JoinPairs", spec := "joinPairs", unfollowed := true, recurses := true, apart := false }
def JoinPairsSaid : Prop := joinPairsRow.holds Try.pinned (OpenSpec.ofChange joinPairsSpec)

/-- ITS FALSE NEIGHBOUR: 'it returns false'. Refute it at one input. -/
def joinPairsWrong : ChangeSpec := { name := "joinPairs", fn := fun _ => fun
  | [d1, d2] => { results := [.lit (.bool false)], args := [d1, d2] }
  | _ => none }
def JoinPairsWrongFalsely : Prop := joinPairsRow.holds Try.pinned (OpenSpec.ofChange joinPairsWrong)

/-- 'ergolaw08.JoinTurned': WHATEVER THE INPUT: true; the input reads as it did. -/
def joinTurnedSpec : ChangeSpec := { name := "joinTurned", fn := fun _ => fun
  | [d] => { results := [.lit (.bool true)], args := [d] }
  | _ => none }
def joinTurnedRow : OpenClaim := { program := "ytmgoefhihljggaa", sum := "c50da34eb0f16f48c461ca7a79fc03ab28b682a7769a64cd4ab13b3248a5fc2d", func := "ergo/ergolaw08.JoinTurned", spec := "joinTurned", unfollowed := true, recurses := true, apart := false }
def JoinTurnedSaid : Prop := joinTurnedRow.holds Try.pinned (OpenSpec.ofChange joinTurnedSpec)

/-- ITS FALSE NEIGHBOUR: 'it returns false'. Refute it at one input. -/
def joinTurnedWrong : ChangeSpec := { name := "joinTurned", fn := fun _ => fun
  | [d] => { results := [.lit (.bool false)], args := [d] }
  | _ => none }
def JoinTurnedWrongFalsely : Prop := joinTurnedRow.holds Try.pinned (OpenSpec.ofChange joinTurnedWrong)

/-- 'ergolaw08.JoinParts': WHATEVER THE INPUT: true; the input reads as it did. -/
def joinPartsSpec : ChangeSpec := { name := "joinParts", fn := fun _ => fun
  | [d1, d2] => { results := [.lit (.bool true)], args := [d1, d2] }
  | _ => none }
def joinPartsRow : OpenClaim := { program := "ytmgoefhihljggaa", sum := "c50da34eb0f16f48c461ca7a79fc03ab28b682a7769a64cd4ab13b3248a5fc2d", func := "ergo/ergolaw08.JoinParts", spec := "joinParts", unfollowed := true, recurses := true, apart := false }
def JoinPartsSaid : Prop := joinPartsRow.holds Try.pinned (OpenSpec.ofChange joinPartsSpec)

/-- ITS FALSE NEIGHBOUR: 'it returns false'. Refute it at one input. -/
def joinPartsWrong : ChangeSpec := { name := "joinParts", fn := fun _ => fun
  | [d1, d2] => { results := [.lit (.bool false)], args := [d1, d2] }
  | _ => none }
def JoinPartsWrongFalsely : Prop := joinPartsRow.holds Try.pinned (OpenSpec.ofChange joinPartsWrong)

/- THE SECOND FORM. 'bulk': how many values and letters a reading holds, each counted each time it is reached (what is shared counts as often as it is met; a slice's spare places count too). A statement '..UptoSaid' is the law's where the arguments, and the package variables that the reading takes, are together of bulk at most 1048576: NARROWER than '..Said'. Prove '..Said' where nothing that the law and all that it calls make is longer than what came in: it says more and counts as full. Else prove '..UptoSaid'. A law counts once. -/
mutual
def uptoBulk {H : Type} : DataW H → Nat
  | .lit (.string bytes) => bytes.length + 1
  | .lit _ => 1
  | .nil => 1
  | .ptr d => uptoBulk d + 1
  | .slice elems spare => uptoBulkAll elems + uptoBulkAll spare + 1
  | .agg parts => uptoBulkAll parts + 1
  | .iface _ d => uptoBulk d + 1
  | .map entries => uptoBulkEntries entries + 1
  | .held _ => 1
def uptoBulkAll {H : Type} : List (DataW H) → Nat
  | [] => 0
  | d :: r => uptoBulk d + uptoBulkAll r
def uptoBulkEntries {H : Type} : List (Lit × DataW H) → Nat
  | [] => 0
  | x :: r => uptoBulkEntry x + uptoBulkEntries r
def uptoBulkEntry {H : Type} : Lit × DataW H → Nat
  | (.string bytes, d) => bytes.length + uptoBulk d + 1
  | (_, d) => uptoBulk d + 1
 end
def uptoSmall : (H : Type) → List (DataW H) → Bool := fun _ ds => decide (uptoBulkAll ds ≤ 1048576)
def OpenSpec.upto (s : _root_.Go.ChangeSpec) : _root_.Go.OpenSpec := { _root_.Go.OpenSpec.ofChange s with cond := some uptoSmall }

/-- 'ergolaw08.JoinMany', WHERE WHAT IT READS IS OF BULK AT MOST 1048576: true; the input reads as it did. -/
def joinManyUptoRow : OpenClaim := { program := "ytmgoefhihljggaa", sum := "c50da34eb0f16f48c461ca7a79fc03ab28b682a7769a64cd4ab13b3248a5fc2d", func := "ergo/ergolaw08.JoinMany", spec := "joinMany", unfollowed := true, recurses := true, apart := false, narrowed := true }
def JoinManyUptoSaid : Prop := joinManyUptoRow.holds Try.pinned (OpenSpec.upto joinManySpec)

/-- 'ergolaw08.JoinPairs', WHERE WHAT IT READS IS OF BULK AT MOST 1048576: true; the input reads as it did. -/
def joinPairsUptoRow : OpenClaim := { program := "ytmgoefhihljggaa", sum := "c50da34eb0f16f48c461ca7a79fc03ab28b682a7769a64cd4ab13b3248a5fc2d", func := "ergo/ergolaw08.JoinPairs", spec := "joinPairs", unfollowed := true, recurses := true, apart := false, narrowed := true }
def JoinPairsUptoSaid : Prop := joinPairsUptoRow.holds Try.pinned (OpenSpec.upto joinPairsSpec)

/-- 'ergolaw08.JoinTurned', WHERE WHAT IT READS IS OF BULK AT MOST 1048576: true; the input reads as it did. -/
def joinTurnedUptoRow : OpenClaim := { program := "ytmgoefhihljggaa", sum := "c50da34eb0f16f48c461ca7a79fc03ab28b682a7769a64cd4ab13b3248a5fc2d", func := "ergo/ergolaw08.JoinTurned", spec := "joinTurned", unfollowed := true, recurses := true, apart := false, narrowed := true }
def JoinTurnedUptoSaid : Prop := joinTurnedUptoRow.holds Try.pinned (OpenSpec.upto joinTurnedSpec)

/-- 'ergolaw08.JoinParts', WHERE WHAT IT READS IS OF BULK AT MOST 1048576: true; the input reads as it did. -/
def joinPartsUptoRow : OpenClaim := { program := "ytmgoefhihljggaa", sum := "c50da34eb0f16f48c461ca7a79fc03ab28b682a7769a64cd4ab13b3248a5fc2d", func := "ergo/ergolaw08.JoinParts", spec := "joinParts", unfollowed := true, recurses := true, apart := false, narrowed := true }
def JoinPartsUptoSaid : Prop := joinPartsUptoRow.holds Try.pinned (OpenSpec.upto joinPartsSpec)

end Rows
end Go.Proofs.Ytmgoefhihljggaa
