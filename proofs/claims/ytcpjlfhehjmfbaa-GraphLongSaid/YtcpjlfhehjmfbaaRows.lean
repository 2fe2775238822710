/-
  No cell of these rows narrows 'for every input' (looked for: loops, veiled, ifaces, maps, wideKeys, modest, calm, conditions, laid).
  DERIVED. THE GIVEN ROWS OF THIS SEAT. 4 by the template 'for every input the law returns true; each argument reads behind the call as it read before'; 0 by the template 'total and deterministic' (their statements: YtcpjlfhehjmfbaaTotals.lean).
  GIVEN WITH THE SEED: the statements are not yours to turn. If you find one false, say at which input.
  Laid BY PROGRAM, IN A SANDBOX (cutbox-rows.mjs): the forced cells as the released guide's own fill.sh prints them over the translation 9187ce9661c71bdd… (all of the seat's roots in one cut). By AI agents, Wed Nov 11 2026. No macro, syntax, notation, axiom, sorry.
-/
import Derived.Test.YtcpjlfhehjmfbaaChecked
import GoSem.Claim
import GoSem.ClaimJoined
import GoSem.ClaimMapViews
import Derived.JoinedTies
import Derived.KernelRfl
namespace Go.Proofs.Ytcpjlfhehjmfbaa
/- THE CELL 'sum', in the pinned program and in every row, IS THE sha256 OF THE DUMP (.gsa) THAT YtcpjlfhehjmfbaaProg.lean LOADS. Nothing in Lean hashes anything: it is a label: what it is worth is what the hold of that sum in a sandbox is worth. -/
noncomputable def Try.pinned : Pinned := { name := "ytcpjlfhehjmfbaa", sum := "9187ce9661c71bdd715d1a279d0f8da6b4e22bf636943118e9bc5dcd88bbe83b", checked := Try.checked }
namespace Rows
def none {H : Type} : Left H := { results := [], args := [] }

/-- 'ergolaw17.GraphComponents': WHATEVER THE INPUT: true; the input reads as it did. -/
def graphComponentsSpec : ChangeSpec := { name := "graphComponents", fn := fun _ => fun
  | [d1, d2] => { results := [.lit (.bool true)], args := [d1, d2] }
  | _ => none }
def graphComponentsRow : OpenClaim := { program := "ytcpjlfhehjmfbaa", sum := "9187ce9661c71bdd715d1a279d0f8da6b4e22bf636943118e9bc5dcd88bbe83b", func := "ergo/ergolaw17.GraphComponents", spec := "graphComponents", unfollowed := true, recurses := true, apart := false }
def GraphComponentsSaid : Prop := graphComponentsRow.holds Try.pinned (OpenSpec.ofChange graphComponentsSpec)

/-- ITS FALSE NEIGHBOUR: 'it returns false'. Refute it at one input. -/
def graphComponentsWrong : ChangeSpec := { name := "graphComponents", fn := fun _ => fun
  | [d1, d2] => { results := [.lit (.bool false)], args := [d1, d2] }
  | _ => none }
def GraphComponentsWrongFalsely : Prop := graphComponentsRow.holds Try.pinned (OpenSpec.ofChange graphComponentsWrong)

/-- 'ergolaw17.GraphRaw': WHATEVER THE INPUT: true; the input reads as it did. -/
def graphRawSpec : ChangeSpec := { name := "graphRaw", fn := fun _ => fun
  | [d1, d2] => { results := [.lit (.bool true)], args := [d1, d2] }
  | _ => none }
def graphRawRow : OpenClaim := { program := "ytcpjlfhehjmfbaa", sum := "9187ce9661c71bdd715d1a279d0f8da6b4e22bf636943118e9bc5dcd88bbe83b", func := "ergo/ergolaw17.GraphRaw", spec := "graphRaw", unfollowed := true, recurses := true, apart := false }
def GraphRawSaid : Prop := graphRawRow.holds Try.pinned (OpenSpec.ofChange graphRawSpec)

/-- ITS FALSE NEIGHBOUR: 'it returns false'. Refute it at one input. -/
def graphRawWrong : ChangeSpec := { name := "graphRaw", fn := fun _ => fun
  | [d1, d2] => { results := [.lit (.bool false)], args := [d1, d2] }
  | _ => none }
def GraphRawWrongFalsely : Prop := graphRawRow.holds Try.pinned (OpenSpec.ofChange graphRawWrong)

/-- 'ergolaw17.GraphLong': WHATEVER THE INPUT: true; the input reads as it did. -/
def graphLongSpec : ChangeSpec := { name := "graphLong", fn := fun _ => fun
  | [d1, d2] => { results := [.lit (.bool true)], args := [d1, d2] }
  | _ => none }
def graphLongRow : OpenClaim := { program := "ytcpjlfhehjmfbaa", sum := "9187ce9661c71bdd715d1a279d0f8da6b4e22bf636943118e9bc5dcd88bbe83b", func := "ergo/ergolaw17.GraphLong", spec := "graphLong", unfollowed := true, recurses := true, apart := false }
def GraphLongSaid : Prop := graphLongRow.holds Try.pinned (OpenSpec.ofChange graphLongSpec)

/-- ITS FALSE NEIGHBOUR: 'it returns false'. Refute it at one input. -/
def graphLongWrong : ChangeSpec := { name := "graphLong", fn := fun _ => fun
  | [d1, d2] => { results := [.lit (.bool false)], args := [d1, d2] }
  | _ => none }
def GraphLongWrongFalsely : Prop := graphLongRow.holds Try.pinned (OpenSpec.ofChange graphLongWrong)

/-- 'ergolaw17.GraphBack': WHATEVER THE INPUT: true; the input reads as it did. -/
def graphBackSpec : ChangeSpec := { name := "graphBack", fn := fun _ => fun
  | [d1, d2] => { results := [.lit (.bool true)], args := [d1, d2] }
  | _ => none }
def graphBackRow : OpenClaim := { program := "ytcpjlfhehjmfbaa", sum := "9187ce9661c71bdd715d1a279d0f8da6b4e22bf636943118e9bc5dcd88bbe83b", func := "ergo/ergolaw17.GraphBack", spec := "graphBack", unfollowed := true, recurses := true, apart := false }
def GraphBackSaid : Prop := graphBackRow.holds Try.pinned (OpenSpec.ofChange graphBackSpec)

/-- ITS FALSE NEIGHBOUR: 'it returns false'. Refute it at one input. -/
def graphBackWrong : ChangeSpec := { name := "graphBack", fn := fun _ => fun
  | [d1, d2] => { results := [.lit (.bool false)], args := [d1, d2] }
  | _ => none }
def GraphBackWrongFalsely : Prop := graphBackRow.holds Try.pinned (OpenSpec.ofChange graphBackWrong)

/- THE SECOND FORM. 'bulk': how many values and letters a reading holds, each counted each time it is reached (what is shared counts as often as it is met; a slice's spare places count too). A statement '..UptoSaid' is the law's where the arguments, and the package variables that the reading takes, are together of bulk at most 1048576: NARROWER than '..Said'. Prove '..Said' where nothing that the law and all that it calls make is longer than what came in: it says more and counts as full. Else prove '..UptoSaid'. A law counts once. -/
mutual
def uptoBulk {H : Type} : DataW H → Nat
  | .lit (.string bytes) => bytes.length + 1
  | .lit _ => 1
  | .nil => 1
  | .ptr d => uptoBulk d + 1
  | .slice elems spare => uptoBulkAll elems + uptoBulkAll spare + 1
  | .agg parts => uptoBulkAll parts + 1
  | .iface _ d => uptoBulk d + 1
  | .map entries => uptoBulkEntries entries + 1
  | .held _ => 1
def uptoBulkAll {H : Type} : List (DataW H) → Nat
  | [] => 0
  | d :: r => uptoBulk d + uptoBulkAll r
def uptoBulkEntries {H : Type} : List (Lit × DataW H) → Nat
  | [] => 0
  | x :: r => uptoBulkEntry x + uptoBulkEntries r
def uptoBulkEntry {H : Type} : Lit × DataW H → Nat
  | (.string bytes, d) => bytes.length + uptoBulk d + 1
  | (_, d) => uptoBulk d + 1
 end
def uptoSmall : (H : Type) → List (DataW H) → Bool := fun _ ds => decide (uptoBulkAll ds ≤ 1048576)
def OpenSpec.upto (s : _root_.Go.ChangeSpec) : _root_.Go.OpenSpec := { _root_.Go.OpenSpec.ofChange s with cond := some uptoSmall }

/-- 'ergolaw17.GraphComponents', WHERE WHAT IT READS IS OF BULK AT MOST 1048576: true; the input reads as it did. -/
def graphComponentsUptoRow : OpenClaim := { program := "ytcpjlfhehjmfbaa", sum := "9187ce9661c71bdd715d1a279d0f8da6b4e22bf636943118e9bc5dcd88bbe83b", func := "ergo/ergolaw17.GraphComponents", spec := "graphComponents", unfollowed := true, recurses := true, apart := false, narrowed := true }
def GraphComponentsUptoSaid : Prop := graphComponentsUptoRow.holds Try.pinned (OpenSpec.upto graphComponentsSpec)

/-- 'ergolaw17.GraphRaw', WHERE WHAT IT READS IS OF BULK AT MOST 1048576: true; the input reads as it did. -/
def graphRawUptoRow : OpenClaim := { program := "ytcpjlfhehjmfbaa", sum := "9187ce9661c71bdd715d1a279d0f8da6b4e22bf636943118e9bc5dcd88bbe83b", func := "ergo/ergolaw17.GraphRaw", spec := "graphRaw", unfollowed := true, recurses := true, apart := false, narrowed := true }
def GraphRawUptoSaid : Prop := graphRawUptoRow.holds Try.pinned (OpenSpec.upto graphRawSpec)

/-- 'ergolaw17.GraphLong', WHERE WHAT IT READS IS OF BULK AT MOST 1048576: true; the input reads as it did. -/
def graphLongUptoRow : OpenClaim := { program := "ytcpjlfhehjmfbaa", sum := "9187ce9661c71bdd715d1a279d0f8da6b4e22bf636943118e9bc5dcd88bbe83b", func := "ergo/ergolaw17.GraphLong", spec := "graphLong", unfollowed := true, recurses := true, apart := false, narrowed := true }
def GraphLongUptoSaid : Prop := graphLongUptoRow.holds Try.pinned (OpenSpec.upto graphLongSpec)

/-- 'ergolaw17.GraphBack', WHERE WHAT IT READS IS OF BULK AT MOST 1048576: true; the input reads as it did. -/
def graphBackUptoRow : OpenClaim := { program := "ytcpjlfhehjmfbaa", sum := "9187ce9661c71bdd715d1a279d0f8da6b4e22bf636943118e9bc5dcd88bbe83b", func := "ergo/ergolaw17.GraphBack", spec := "graphBack", unfollowed := true, recurses := true, apart := false, narrowed := true }
def GraphBackUptoSaid : Prop := graphBackUptoRow.holds Try.pinned (OpenSpec.upto graphBackSpec)

end Rows
end Go.Proofs.Ytcpjlfhehjmfbaa
