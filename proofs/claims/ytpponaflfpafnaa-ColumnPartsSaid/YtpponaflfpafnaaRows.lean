/-
  No cell of these rows narrows 'for every input' (looked for: loops, veiled, ifaces, maps, wideKeys, modest, calm, conditions, laid).
  DERIVED. THE GIVEN ROWS OF THIS SEAT. 7 by the template 'for every input the law returns true; each argument reads behind the call as it read before'; 0 by the template 'total and deterministic' (their statements: YtpponaflfpafnaaTotals.lean).
  GIVEN WITH THE SEED: the statements are not yours to turn. If you find one false, say at which input.
  Laid BY PROGRAM, IN A SANDBOX (cutbox-rows.mjs): the forced cells as the released guide's own fill.sh prints them over the translation 2b477a86f0dfbb59… (all of the seat's roots in one cut). By AI agents, Wed Nov 11 2026. No macro, syntax, notation, axiom, sorry.
-/
import Derived.Test.YtpponaflfpafnaaChecked
import GoSem.Claim
import GoSem.ClaimJoined
import GoSem.ClaimMapViews
import Derived.JoinedTies
import Derived.KernelRfl
namespace Go.Proofs.Ytpponaflfpafnaa
/- THE CELL 'sum', in the pinned program and in every row, IS THE sha256 OF THE DUMP (.gsa) THAT YtpponaflfpafnaaProg.lean LOADS. Nothing in Lean hashes anything: it is a label: what it is worth is what the hold of that sum in a sandbox is worth. -/
noncomputable def Try.pinned : Pinned := { name := "ytpponaflfpafnaa", sum := "2b477a86f0dfbb599c5dd22a4804ccca5043dca5f8be7a9365c7c5ac4bbea382", checked := Try.checked }
namespace Rows
def none {H : Type} : Left H := { results := [], args := [] }

/-- 'ergolaw03.ColumnHolds': WHATEVER THE INPUT: true; the input reads as it did. -/
def columnHoldsSpec : ChangeSpec := { name := "columnHolds", fn := fun _ => fun
  | [d1, d2, d3] => { results := [.lit (.bool true)], args := [d1, d2, d3] }
  | _ => none }
def columnHoldsRow : OpenClaim := { program := "ytpponaflfpafnaa", sum := "2b477a86f0dfbb599c5dd22a4804ccca5043dca5f8be7a9365c7c5ac4bbea382", func := "ergo/ergolaw03.ColumnHolds", spec := "columnHolds", apart := false }
def ColumnHoldsSaid : Prop := columnHoldsRow.holds Try.pinned (OpenSpec.ofChange columnHoldsSpec)

/-- ITS FALSE NEIGHBOUR: 'it returns false'. Refute it at one input. -/
def columnHoldsWrong : ChangeSpec := { name := "columnHolds", fn := fun _ => fun
  | [d1, d2, d3] => { results := [.lit (.bool false)], args := [d1, d2, d3] }
  | _ => none }
def ColumnHoldsWrongFalsely : Prop := columnHoldsRow.holds Try.pinned (OpenSpec.ofChange columnHoldsWrong)

/-- 'ergolaw03.ColumnWhere': WHATEVER THE INPUT: true; the input reads as it did. -/
def columnWhereSpec : ChangeSpec := { name := "columnWhere", fn := fun _ => fun
  | [d1, d2, d3, d4] => { results := [.lit (.bool true)], args := [d1, d2, d3, d4] }
  | _ => none }
def columnWhereRow : OpenClaim := { program := "ytpponaflfpafnaa", sum := "2b477a86f0dfbb599c5dd22a4804ccca5043dca5f8be7a9365c7c5ac4bbea382", func := "ergo/ergolaw03.ColumnWhere", spec := "columnWhere", apart := false }
def ColumnWhereSaid : Prop := columnWhereRow.holds Try.pinned (OpenSpec.ofChange columnWhereSpec)

/-- ITS FALSE NEIGHBOUR: 'it returns false'. Refute it at one input. -/
def columnWhereWrong : ChangeSpec := { name := "columnWhere", fn := fun _ => fun
  | [d1, d2, d3, d4] => { results := [.lit (.bool false)], args := [d1, d2, d3, d4] }
  | _ => none }
def ColumnWhereWrongFalsely : Prop := columnWhereRow.holds Try.pinned (OpenSpec.ofChange columnWhereWrong)

/-- 'ergolaw03.ColumnGathers': WHATEVER THE INPUT: true; the input reads as it did. -/
def columnGathersSpec : ChangeSpec := { name := "columnGathers", fn := fun _ => fun
  | [d1, d2] => { results := [.lit (.bool true)], args := [d1, d2] }
  | _ => none }
def columnGathersRow : OpenClaim := { program := "ytpponaflfpafnaa", sum := "2b477a86f0dfbb599c5dd22a4804ccca5043dca5f8be7a9365c7c5ac4bbea382", func := "ergo/ergolaw03.ColumnGathers", spec := "columnGathers", apart := false }
def ColumnGathersSaid : Prop := columnGathersRow.holds Try.pinned (OpenSpec.ofChange columnGathersSpec)

/-- ITS FALSE NEIGHBOUR: 'it returns false'. Refute it at one input. -/
def columnGathersWrong : ChangeSpec := { name := "columnGathers", fn := fun _ => fun
  | [d1, d2] => { results := [.lit (.bool false)], args := [d1, d2] }
  | _ => none }
def ColumnGathersWrongFalsely : Prop := columnGathersRow.holds Try.pinned (OpenSpec.ofChange columnGathersWrong)

/-- 'ergolaw03.ColumnChains': WHATEVER THE INPUT: true; the input reads as it did. -/
def columnChainsSpec : ChangeSpec := { name := "columnChains", fn := fun _ => fun
  | [d1, d2, d3] => { results := [.lit (.bool true)], args := [d1, d2, d3] }
  | _ => none }
def columnChainsRow : OpenClaim := { program := "ytpponaflfpafnaa", sum := "2b477a86f0dfbb599c5dd22a4804ccca5043dca5f8be7a9365c7c5ac4bbea382", func := "ergo/ergolaw03.ColumnChains", spec := "columnChains", apart := false }
def ColumnChainsSaid : Prop := columnChainsRow.holds Try.pinned (OpenSpec.ofChange columnChainsSpec)

/-- ITS FALSE NEIGHBOUR: 'it returns false'. Refute it at one input. -/
def columnChainsWrong : ChangeSpec := { name := "columnChains", fn := fun _ => fun
  | [d1, d2, d3] => { results := [.lit (.bool false)], args := [d1, d2, d3] }
  | _ => none }
def ColumnChainsWrongFalsely : Prop := columnChainsRow.holds Try.pinned (OpenSpec.ofChange columnChainsWrong)

/-- 'ergolaw03.ColumnAnds': WHATEVER THE INPUT: true; the input reads as it did. -/
def columnAndsSpec : ChangeSpec := { name := "columnAnds", fn := fun _ => fun
  | [d1, d2, d3, d4, d5] => { results := [.lit (.bool true)], args := [d1, d2, d3, d4, d5] }
  | _ => none }
def columnAndsRow : OpenClaim := { program := "ytpponaflfpafnaa", sum := "2b477a86f0dfbb599c5dd22a4804ccca5043dca5f8be7a9365c7c5ac4bbea382", func := "ergo/ergolaw03.ColumnAnds", spec := "columnAnds", apart := false }
def ColumnAndsSaid : Prop := columnAndsRow.holds Try.pinned (OpenSpec.ofChange columnAndsSpec)

/-- ITS FALSE NEIGHBOUR: 'it returns false'. Refute it at one input. -/
def columnAndsWrong : ChangeSpec := { name := "columnAnds", fn := fun _ => fun
  | [d1, d2, d3, d4, d5] => { results := [.lit (.bool false)], args := [d1, d2, d3, d4, d5] }
  | _ => none }
def ColumnAndsWrongFalsely : Prop := columnAndsRow.holds Try.pinned (OpenSpec.ofChange columnAndsWrong)

/-- 'ergolaw03.ColumnParts': WHATEVER THE INPUT: true; the input reads as it did. -/
def columnPartsSpec : ChangeSpec := { name := "columnParts", fn := fun _ => fun
  | [d1, d2] => { results := [.lit (.bool true)], args := [d1, d2] }
  | _ => none }
def columnPartsRow : OpenClaim := { program := "ytpponaflfpafnaa", sum := "2b477a86f0dfbb599c5dd22a4804ccca5043dca5f8be7a9365c7c5ac4bbea382", func := "ergo/ergolaw03.ColumnParts", spec := "columnParts", apart := false }
def ColumnPartsSaid : Prop := columnPartsRow.holds Try.pinned (OpenSpec.ofChange columnPartsSpec)

/-- ITS FALSE NEIGHBOUR: 'it returns false'. Refute it at one input. -/
def columnPartsWrong : ChangeSpec := { name := "columnParts", fn := fun _ => fun
  | [d1, d2] => { results := [.lit (.bool false)], args := [d1, d2] }
  | _ => none }
def ColumnPartsWrongFalsely : Prop := columnPartsRow.holds Try.pinned (OpenSpec.ofChange columnPartsWrong)

/-- 'ergolaw03.ColumnReckons': WHATEVER THE INPUT: true; the input reads as it did. -/
def columnReckonsSpec : ChangeSpec := { name := "columnReckons", fn := fun _ => fun
  | [d1, d2, d3, d4] => { results := [.lit (.bool true)], args := [d1, d2, d3, d4] }
  | _ => none }
def columnReckonsRow : OpenClaim := { program := "ytpponaflfpafnaa", sum := "2b477a86f0dfbb599c5dd22a4804ccca5043dca5f8be7a9365c7c5ac4bbea382", func := "ergo/ergolaw03.ColumnReckons", spec := "columnReckons", apart := false }
def ColumnReckonsSaid : Prop := columnReckonsRow.holds Try.pinned (OpenSpec.ofChange columnReckonsSpec)

/-- ITS FALSE NEIGHBOUR: 'it returns false'. Refute it at one input. -/
def columnReckonsWrong : ChangeSpec := { name := "columnReckons", fn := fun _ => fun
  | [d1, d2, d3, d4] => { results := [.lit (.bool false)], args := [d1, d2, d3, d4] }
  | _ => none }
def ColumnReckonsWrongFalsely : Prop := columnReckonsRow.holds Try.pinned (OpenSpec.ofChange columnReckonsWrong)

/- THE SECOND FORM. 'bulk': how many values and letters a reading holds, each counted each time it is reached (what is shared counts as often as it is met; a slice's spare places count too). A statement '..UptoSaid' is the law's where the arguments, and the package variables that the reading takes, are together of bulk at most 1048576: NARROWER than '..Said'. Prove '..Said' where nothing that the law and all that it calls make is longer than what came in: it says more and counts as full. Else prove '..UptoSaid'. A law counts once. -/
mutual
def uptoBulk {H : Type} : DataW H → Nat
  | .lit (.string bytes) => bytes.length + 1
  | .lit _ => 1
  | .nil => 1
  | .ptr d => uptoBulk d + 1
  | .slice elems spare => uptoBulkAll elems + uptoBulkAll spare + 1
  | .agg parts => uptoBulkAll parts + 1
  | .iface _ d => uptoBulk d + 1
  | .map entries => uptoBulkEntries entries + 1
  | .held _ => 1
def uptoBulkAll {H : Type} : List (DataW H) → Nat
  | [] => 0
  | d :: r => uptoBulk d + uptoBulkAll r
def uptoBulkEntries {H : Type} : List (Lit × DataW H) → Nat
  | [] => 0
  | x :: r => uptoBulkEntry x + uptoBulkEntries r
def uptoBulkEntry {H : Type} : Lit × DataW H → Nat
  | (.string bytes, d) => bytes.length + uptoBulk d + 1
  | (_, d) => uptoBulk d + 1
 end
def uptoSmall : (H : Type) → List (DataW H) → Bool := fun _ ds => decide (uptoBulkAll ds ≤ 1048576)
def OpenSpec.upto (s : _root_.Go.ChangeSpec) : _root_.Go.OpenSpec := { _root_.Go.OpenSpec.ofChange s with cond := some uptoSmall }

/-- 'ergolaw03.ColumnHolds', WHERE WHAT IT READS IS OF BULK AT MOST 1048576: true; the input reads as it did. -/
def columnHoldsUptoRow : OpenClaim := { program := "ytpponaflfpafnaa", sum := "2b477a86f0dfbb599c5dd22a4804ccca5043dca5f8be7a9365c7c5ac4bbea382", func := "ergo/ergolaw03.ColumnHolds", spec := "columnHolds", apart := false, narrowed := true }
def ColumnHoldsUptoSaid : Prop := columnHoldsUptoRow.holds Try.pinned (OpenSpec.upto columnHoldsSpec)

/-- 'ergolaw03.ColumnWhere', WHERE WHAT IT READS IS OF BULK AT MOST 1048576: true; the input reads as it did. -/
def columnWhereUptoRow : OpenClaim := { program := "ytpponaflfpafnaa", sum := "2b477a86f0dfbb599c5dd22a4804ccca5043dca5f8be7a9365c7c5ac4bbea382", func := "ergo/ergolaw03.ColumnWhere", spec := "columnWhere", apart := false, narrowed := true }
def ColumnWhereUptoSaid : Prop := columnWhereUptoRow.holds Try.pinned (OpenSpec.upto columnWhereSpec)

/-- 'ergolaw03.ColumnGathers', WHERE WHAT IT READS IS OF BULK AT MOST 1048576: true; the input reads as it did. -/
def columnGathersUptoRow : OpenClaim := { program := "ytpponaflfpafnaa", sum := "2b477a86f0dfbb599c5dd22a4804ccca5043dca5f8be7a9365c7c5ac4bbea382", func := "ergo/ergolaw03.ColumnGathers", spec := "columnGathers", apart := false, narrowed := true }
def ColumnGathersUptoSaid : Prop := columnGathersUptoRow.holds Try.pinned (OpenSpec.upto columnGathersSpec)

/-- 'ergolaw03.ColumnChains', WHERE WHAT IT READS IS OF BULK AT MOST 1048576: true; the input reads as it did. -/
def columnChainsUptoRow : OpenClaim := { program := "ytpponaflfpafnaa", sum := "2b477a86f0dfbb599c5dd22a4804ccca5043dca5f8be7a9365c7c5ac4bbea382", func := "ergo/ergolaw03.ColumnChains", spec := "columnChains", apart := false, narrowed := true }
def ColumnChainsUptoSaid : Prop := columnChainsUptoRow.holds Try.pinned (OpenSpec.upto columnChainsSpec)

/-- 'ergolaw03.ColumnAnds', WHERE WHAT IT READS IS OF BULK AT MOST 1048576: true; the input reads as it did. -/
def columnAndsUptoRow : OpenClaim := { program := "ytpponaflfpafnaa", sum := "2b477a86f0dfbb599c5dd22a4804ccca5043dca5f8be7a9365c7c5ac4bbea382", func := "ergo/ergolaw03.ColumnAnds", spec := "columnAnds", apart := false, narrowed := true }
def ColumnAndsUptoSaid : Prop := columnAndsUptoRow.holds Try.pinned (OpenSpec.upto columnAndsSpec)

/-- 'ergolaw03.ColumnParts', WHERE WHAT IT READS IS OF BULK AT MOST 1048576: true; the input reads as it did. -/
def columnPartsUptoRow : OpenClaim := { program := "ytpponaflfpafnaa", sum := "2b477a86f0dfbb599c5dd22a4804ccca5043dca5f8be7a9365c7c5ac4bbea382", func := "ergo/ergolaw03.ColumnParts", spec := "columnParts", apart := false, narrowed := true }
def ColumnPartsUptoSaid : Prop := columnPartsUptoRow.holds Try.pinned (OpenSpec.upto columnPartsSpec)

/-- 'ergolaw03.ColumnReckons', WHERE WHAT IT READS IS OF BULK AT MOST 1048576: true; the input reads as it did. -/
def columnReckonsUptoRow : OpenClaim := { program := "ytpponaflfpafnaa", sum := "2b477a86f0dfbb599c5dd22a4804ccca5043dca5f8be7a9365c7c5ac4bbea382", func := "ergo/ergolaw03.ColumnReckons", spec := "columnReckons", apart := false, narrowed := true }
def ColumnReckonsUptoSaid : Prop := columnReckonsUptoRow.holds Try.pinned (OpenSpec.upto columnReckonsSpec)

end Rows
end Go.Proofs.Ytpponaflfpafnaa
