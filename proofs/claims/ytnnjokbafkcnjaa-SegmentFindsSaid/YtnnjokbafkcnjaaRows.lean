/-
  No cell of these rows narrows 'for every input' (looked for: loops, veiled, ifaces, maps, wideKeys, modest, calm, conditions, laid).
  DERIVED. THE GIVEN ROWS OF THIS SEAT. 5 by the template 'for every input the law returns true; each argument reads behind the call as it read before'; 0 by the template 'total and deterministic' (their statements: YtnnjokbafkcnjaaTotals.lean).
  GIVEN WITH THE SEED: the statements are not yours to turn. If you find one false, say at which input.
  Laid BY PROGRAM, IN A SANDBOX (cutbox-rows.mjs): the forced cells as the released guide's own fill.sh prints them over the translation df808ae10d01e632… (all of the seat's roots in one cut). By AI agents, Wed Nov 11 2026. No macro, syntax, notation, axiom, sorry.
-/
import Derived.Test.YtnnjokbafkcnjaaChecked
import GoSem.Claim
import GoSem.ClaimJoined
import GoSem.ClaimMapViews
import Derived.JoinedTies
import Derived.KernelRfl
namespace Go.Proofs.Ytnnjokbafkcnjaa
/- THE CELL 'sum', in the pinned program and in every row, IS THE sha256 OF THE DUMP (.gsa) THAT YtnnjokbafkcnjaaProg.lean LOADS. Nothing in Lean hashes anything: it is a label: what it is worth is what the hold of that sum in a sandbox is worth. -/
noncomputable def Try.pinned : Pinned := { name := "ytnnjokbafkcnjaa", sum := "df808ae10d01e63264f56d8e54e9a29531a635ac972bed4c8c3ea7c2451302fb", checked := Try.checked }
namespace Rows
def none {H : Type} : Left H := { results := [], args := [] }

/-- 'ergolaw05.SegmentNests': WHATEVER THE INPUT: true; the input reads as it did. -/
def segmentNestsSpec : ChangeSpec := { name := "segmentNests", fn := fun _ => fun
  | [d1, d2, d3] => { results := [.lit (.bool true)], args := [d1, d2, d3] }
  | _ => none }
def segmentNestsRow : OpenClaim := { program := "ytnnjokbafkcnjaa", sum := "df808ae10d01e63264f56d8e54e9a29531a635ac972bed4c8c3ea7c2451302fb", func := "ergo/ergolaw05.SegmentNests", spec := "segmentNests", unfollowed := true, recurses := true, apart := false }
def SegmentNestsSaid : Prop := segmentNestsRow.holds Try.pinned (OpenSpec.ofChange segmentNestsSpec)

/-- ITS FALSE NEIGHBOUR: 'it returns false'. Refute it at one input. -/
def segmentNestsWrong : ChangeSpec := { name := "segmentNests", fn := fun _ => fun
  | [d1, d2, d3] => { results := [.lit (.bool false)], args := [d1, d2, d3] }
  | _ => none }
def SegmentNestsWrongFalsely : Prop := segmentNestsRow.holds Try.pinned (OpenSpec.ofChange segmentNestsWrong)

/-- 'ergolaw05.SegmentFinds': WHATEVER THE INPUT: true; the input reads as it did. -/
def segmentFindsSpec : ChangeSpec := { name := "segmentFinds", fn := fun _ => fun
  | [d1, d2, d3] => { results := [.lit (.bool true)], args := [d1, d2, d3] }
  | _ => none }
def segmentFindsRow : OpenClaim := { program := "ytnnjokbafkcnjaa", sum := "df808ae10d01e63264f56d8e54e9a29531a635ac972bed4c8c3ea7c2451302fb", func := "ergo/ergolaw05.SegmentFinds", spec := "segmentFinds", unfollowed := true, recurses := true, apart := false }
def SegmentFindsSaid : Prop := segmentFindsRow.holds Try.pinned (OpenSpec.ofChange segmentFindsSpec)

/-- ITS FALSE NEIGHBOUR: 'it returns false'. Refute it at one input. -/
def segmentFindsWrong : ChangeSpec := { name := "segmentFinds", fn := fun _ => fun
  | [d1, d2, d3] => { results := [.lit (.bool false)], args := [d1, d2, d3] }
  | _ => none }
def SegmentFindsWrongFalsely : Prop := segmentFindsRow.holds Try.pinned (OpenSpec.ofChange segmentFindsWrong)

/-- 'ergolaw05.SegmentTurns': WHATEVER THE INPUT: true; the input reads as it did. -/
def segmentTurnsSpec : ChangeSpec := { name := "segmentTurns", fn := fun _ => fun
  | [d1, d2, d3] => { results := [.lit (.bool true)], args := [d1, d2, d3] }
  | _ => none }
def segmentTurnsRow : OpenClaim := { program := "ytnnjokbafkcnjaa", sum := "df808ae10d01e63264f56d8e54e9a29531a635ac972bed4c8c3ea7c2451302fb", func := "ergo/ergolaw05.SegmentTurns", spec := "segmentTurns", unfollowed := true, recurses := true, apart := false }
def SegmentTurnsSaid : Prop := segmentTurnsRow.holds Try.pinned (OpenSpec.ofChange segmentTurnsSpec)

/-- ITS FALSE NEIGHBOUR: 'it returns false'. Refute it at one input. -/
def segmentTurnsWrong : ChangeSpec := { name := "segmentTurns", fn := fun _ => fun
  | [d1, d2, d3] => { results := [.lit (.bool false)], args := [d1, d2, d3] }
  | _ => none }
def SegmentTurnsWrongFalsely : Prop := segmentTurnsRow.holds Try.pinned (OpenSpec.ofChange segmentTurnsWrong)

/-- 'ergolaw05.SegmentOps': WHATEVER THE INPUT: true; the input reads as it did. -/
def segmentOpsSpec : ChangeSpec := { name := "segmentOps", fn := fun _ => fun
  | [d1, d2, d3] => { results := [.lit (.bool true)], args := [d1, d2, d3] }
  | _ => none }
def segmentOpsRow : OpenClaim := { program := "ytnnjokbafkcnjaa", sum := "df808ae10d01e63264f56d8e54e9a29531a635ac972bed4c8c3ea7c2451302fb", func := "ergo/ergolaw05.SegmentOps", spec := "segmentOps", unfollowed := true, recurses := true, apart := false }
def SegmentOpsSaid : Prop := segmentOpsRow.holds Try.pinned (OpenSpec.ofChange segmentOpsSpec)

/-- ITS FALSE NEIGHBOUR: 'it returns false'. Refute it at one input. -/
def segmentOpsWrong : ChangeSpec := { name := "segmentOps", fn := fun _ => fun
  | [d1, d2, d3] => { results := [.lit (.bool false)], args := [d1, d2, d3] }
  | _ => none }
def SegmentOpsWrongFalsely : Prop := segmentOpsRow.holds Try.pinned (OpenSpec.ofChange segmentOpsWrong)

/-- 'ergolaw05.SegmentLaws': WHATEVER THE INPUT: true; the input reads as it did. -/
def segmentLawsSpec : ChangeSpec := { name := "segmentLaws", fn := fun _ => fun
  | [d1, d2, d3, d4] => { results := [.lit (.bool true)], args := [d1, d2, d3, d4] }
  | _ => none }
def segmentLawsRow : OpenClaim := { program := "ytnnjokbafkcnjaa", sum := "df808ae10d01e63264f56d8e54e9a29531a635ac972bed4c8c3ea7c2451302fb", func := "ergo/ergolaw05.SegmentLaws", spec := "segmentLaws", unfollowed := true, recurses := true, apart := false }
def SegmentLawsSaid : Prop := segmentLawsRow.holds Try.pinned (OpenSpec.ofChange segmentLawsSpec)

/-- ITS FALSE NEIGHBOUR: 'it returns false'. Refute it at one input. -/
def segmentLawsWrong : ChangeSpec := { name := "segmentLaws", fn := fun _ => fun
  | [d1, d2, d3, d4] => { results := [.lit (.bool false)], args := [d1, d2, d3, d4] }
  | _ => none }
def SegmentLawsWrongFalsely : Prop := segmentLawsRow.holds Try.pinned (OpenSpec.ofChange segmentLawsWrong)

/- THE SECOND FORM. 'bulk': how many values and letters a reading holds, each counted each time it is reached (what is shared counts as often as it is met; a slice's spare places count too). A statement '..UptoSaid' is the law's where the arguments, and the package variables that the reading takes, are together of bulk at most 1048576: NARROWER than '..Said'. Prove '..Said' where nothing that the law and all that it calls make is longer than what came in: it says more and counts as full. Else prove '..UptoSaid'. A law counts once. -/
mutual
def uptoBulk {H : Type} : DataW H → Nat
  | .lit (.string bytes) => bytes.length + 1
  | .lit _ => 1
  | .nil => 1
  | .ptr d => uptoBulk d + 1
  | .slice elems spare => uptoBulkAll elems + uptoBulkAll spare + 1
  | .agg parts => uptoBulkAll parts + 1
  | .iface _ d => uptoBulk d + 1
  | .map entries => uptoBulkEntries entries + 1
  | .held _ => 1
def uptoBulkAll {H : Type} : List (DataW H) → Nat
  | [] => 0
  | d :: r => uptoBulk d + uptoBulkAll r
def uptoBulkEntries {H : Type} : List (Lit × DataW H) → Nat
  | [] => 0
  | x :: r => uptoBulkEntry x + uptoBulkEntries r
def uptoBulkEntry {H : Type} : Lit × DataW H → Nat
  | (.string bytes, d) => bytes.length + uptoBulk d + 1
  | (_, d) => uptoBulk d + 1
 end
def uptoSmall : (H : Type) → List (DataW H) → Bool := fun _ ds => decide (uptoBulkAll ds ≤ 1048576)
def OpenSpec.upto (s : _root_.Go.ChangeSpec) : _root_.Go.OpenSpec := { _root_.Go.OpenSpec.ofChange s with cond := some uptoSmall }

/-- 'ergolaw05.SegmentNests', WHERE WHAT IT READS IS OF BULK AT MOST 1048576: true; the input reads as it did. -/
def segmentNestsUptoRow : OpenClaim := { program := "ytnnjokbafkcnjaa", sum := "df808ae10d01e63264f56d8e54e9a29531a635ac972bed4c8c3ea7c2451302fb", func := "ergo/ergolaw05.SegmentNests", spec := "segmentNests", unfollowed := true, recurses := true, apart := false, narrowed := true }
def SegmentNestsUptoSaid : Prop := segmentNestsUptoRow.holds Try.pinned (OpenSpec.upto segmentNestsSpec)

/-- 'ergolaw05.SegmentFinds', WHERE WHAT IT READS IS OF BULK AT MOST 1048576: true; the input reads as it did. -/
def segmentFindsUptoRow : OpenClaim := { program := "ytnnjokbafkcnjaa", sum := "df808ae10d01e63264f56d8e54e9a29531a635ac972bed4c8c3ea7c2451302fb", func := "ergo/ergolaw05.SegmentFinds", spec := "segmentFinds", unfollowed := true, recurses := true, apart := false, narrowed := true }
def SegmentFindsUptoSaid : Prop := segmentFindsUptoRow.holds Try.pinned (OpenSpec.upto segmentFindsSpec)

/-- 'ergolaw05.SegmentTurns', WHERE WHAT IT READS IS OF BULK AT MOST 1048576: true; the input reads as it did. -/
def segmentTurnsUptoRow : OpenClaim := { program := "ytnnjokbafkcnjaa", sum := "df808ae10d01e63264f56d8e54e9a29531a635ac972bed4c8c3ea7c2451302fb", func := "ergo/ergolaw05.SegmentTurns", spec := "segmentTurns", unfollowed := true, recurses := true, apart := false, narrowed := true }
def SegmentTurnsUptoSaid : Prop := segmentTurnsUptoRow.holds Try.pinned (OpenSpec.upto segmentTurnsSpec)

/-- 'ergolaw05.SegmentOps', WHERE WHAT IT READS IS OF BULK AT MOST 1048576: true; the input reads as it did. -/
def segmentOpsUptoRow : OpenClaim := { program := "ytnnjokbafkcnjaa", sum := "df808ae10d01e63264f56d8e54e9a29531a635ac972bed4c8c3ea7c2451302fb", func := "ergo/ergolaw05.SegmentOps", spec := "segmentOps", unfollowed := true, recurses := true, apart := false, narrowed := true }
def SegmentOpsUptoSaid : Prop := segmentOpsUptoRow.holds Try.pinned (OpenSpec.upto segmentOpsSpec)

/-- 'ergolaw05.SegmentLaws', WHERE WHAT IT READS IS OF BULK AT MOST 1048576: true; the input reads as it did. -/
def segmentLawsUptoRow : OpenClaim := { program := "ytnnjokbafkcnjaa", sum := "df808ae10d01e63264f56d8e54e9a29531a635ac972bed4c8c3ea7c2451302fb", func := "ergo/ergolaw05.SegmentLaws", spec := "segmentLaws", unfollowed := true, recurses := true, apart := false, narrowed := true }
def SegmentLawsUptoSaid : Prop := segmentLawsUptoRow.holds Try.pinned (OpenSpec.upto segmentLawsSpec)

end Rows
end Go.Proofs.Ytnnjokbafkcnjaa
