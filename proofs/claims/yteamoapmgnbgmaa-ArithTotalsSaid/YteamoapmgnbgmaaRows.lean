/-
  No cell of these rows narrows 'for every input' (looked for: loops, veiled, ifaces, maps, wideKeys, modest, calm, conditions, laid).
  DERIVED. THE GIVEN ROWS OF THIS SEAT. 7 by the template 'for every input the law returns true; each argument reads behind the call as it read before'; 0 by the template 'total and deterministic' (their statements: YteamoapmgnbgmaaTotals.lean).
  GIVEN WITH THE SEED: the statements are not yours to turn. If you find one false, say at which input.
  Laid BY PROGRAM, IN A SANDBOX (cutbox-rows.mjs): the forced cells as the released guide's own fill.sh prints them over the translation 41f1252c57cb6397… (all of the seat's roots in one cut). By AI agents, Wed Nov 11 2026. No macro, syntax, notation, axiom, sorry.
-/
import Derived.Test.YteamoapmgnbgmaaChecked
import GoSem.Claim
import GoSem.ClaimJoined
import GoSem.ClaimMapViews
import Derived.JoinedTies
import Derived.KernelRfl
namespace Go.Proofs.Yteamoapmgnbgmaa
/- THE CELL 'sum', in the pinned program and in every row, IS THE sha256 OF THE DUMP (.gsa) THAT YteamoapmgnbgmaaProg.lean LOADS. Nothing in Lean hashes anything: it is a label: what it is worth is what the hold of that sum in a sandbox is worth. -/
noncomputable def Try.pinned : Pinned := { name := "yteamoapmgnbgmaa", sum := "41f1252c57cb6397f69dc9d6c9907b2f9937124da548b3d0b29f944482ed4f21", checked := Try.checked }
namespace Rows
def none {H : Type} : Left H := { results := [], args := [] }

/-- 'ergolaw02.ArithParts': WHATEVER THE INPUT: true; the input reads as it did. -/
def arithPartsSpec : ChangeSpec := { name := "arithParts", fn := fun _ => fun
  | [d1, d2] => { results := [.lit (.bool true)], args := [d1, d2] }
  | _ => none }
def arithPartsRow : OpenClaim := { program := "yteamoapmgnbgmaa", sum := "41f1252c57cb6397f69dc9d6c9907b2f9937124da548b3d0b29f944482ed4f21", func := "ergo/ergolaw02.ArithParts", spec := "arithParts", apart := false }
def ArithPartsSaid : Prop := arithPartsRow.holds Try.pinned (OpenSpec.ofChange arithPartsSpec)

/-- ITS FALSE NEIGHBOUR: 'it returns false'. Refute it at one input. -/
def arithPartsWrong : ChangeSpec := { name := "arithParts", fn := fun _ => fun
  | [d1, d2] => { results := [.lit (.bool false)], args := [d1, d2] }
  | _ => none }
def ArithPartsWrongFalsely : Prop := arithPartsRow.holds Try.pinned (OpenSpec.ofChange arithPartsWrong)

/-- 'ergolaw02.ArithBounds': WHATEVER THE INPUT: true; the input reads as it did. -/
def arithBoundsSpec : ChangeSpec := { name := "arithBounds", fn := fun _ => fun
  | [d1, d2, d3] => { results := [.lit (.bool true)], args := [d1, d2, d3] }
  | _ => none }
def arithBoundsRow : OpenClaim := { program := "yteamoapmgnbgmaa", sum := "41f1252c57cb6397f69dc9d6c9907b2f9937124da548b3d0b29f944482ed4f21", func := "ergo/ergolaw02.ArithBounds", spec := "arithBounds", apart := false }
def ArithBoundsSaid : Prop := arithBoundsRow.holds Try.pinned (OpenSpec.ofChange arithBoundsSpec)

/-- ITS FALSE NEIGHBOUR: 'it returns false'. Refute it at one input. -/
def arithBoundsWrong : ChangeSpec := { name := "arithBounds", fn := fun _ => fun
  | [d1, d2, d3] => { results := [.lit (.bool false)], args := [d1, d2, d3] }
  | _ => none }
def ArithBoundsWrongFalsely : Prop := arithBoundsRow.holds Try.pinned (OpenSpec.ofChange arithBoundsWrong)

/-- 'ergolaw02.ArithLaws': WHATEVER THE INPUT: true; the input reads as it did. -/
def arithLawsSpec : ChangeSpec := { name := "arithLaws", fn := fun _ => fun
  | [d1, d2, d3] => { results := [.lit (.bool true)], args := [d1, d2, d3] }
  | _ => none }
def arithLawsRow : OpenClaim := { program := "yteamoapmgnbgmaa", sum := "41f1252c57cb6397f69dc9d6c9907b2f9937124da548b3d0b29f944482ed4f21", func := "ergo/ergolaw02.ArithLaws", spec := "arithLaws", apart := false }
def ArithLawsSaid : Prop := arithLawsRow.holds Try.pinned (OpenSpec.ofChange arithLawsSpec)

/-- ITS FALSE NEIGHBOUR: 'it returns false'. Refute it at one input. -/
def arithLawsWrong : ChangeSpec := { name := "arithLaws", fn := fun _ => fun
  | [d1, d2, d3] => { results := [.lit (.bool false)], args := [d1, d2, d3] }
  | _ => none }
def ArithLawsWrongFalsely : Prop := arithLawsRow.holds Try.pinned (OpenSpec.ofChange arithLawsWrong)

/-- 'ergolaw02.ArithBacks': WHATEVER THE INPUT: true; the input reads as it did. -/
def arithBacksSpec : ChangeSpec := { name := "arithBacks", fn := fun _ => fun
  | [d1, d2] => { results := [.lit (.bool true)], args := [d1, d2] }
  | _ => none }
def arithBacksRow : OpenClaim := { program := "yteamoapmgnbgmaa", sum := "41f1252c57cb6397f69dc9d6c9907b2f9937124da548b3d0b29f944482ed4f21", func := "ergo/ergolaw02.ArithBacks", spec := "arithBacks", apart := false }
def ArithBacksSaid : Prop := arithBacksRow.holds Try.pinned (OpenSpec.ofChange arithBacksSpec)

/-- ITS FALSE NEIGHBOUR: 'it returns false'. Refute it at one input. -/
def arithBacksWrong : ChangeSpec := { name := "arithBacks", fn := fun _ => fun
  | [d1, d2] => { results := [.lit (.bool false)], args := [d1, d2] }
  | _ => none }
def ArithBacksWrongFalsely : Prop := arithBacksRow.holds Try.pinned (OpenSpec.ofChange arithBacksWrong)

/-- 'ergolaw02.ArithSums': WHATEVER THE INPUT: true; the input reads as it did. -/
def arithSumsSpec : ChangeSpec := { name := "arithSums", fn := fun _ => fun
  | [d1, d2] => { results := [.lit (.bool true)], args := [d1, d2] }
  | _ => none }
def arithSumsRow : OpenClaim := { program := "yteamoapmgnbgmaa", sum := "41f1252c57cb6397f69dc9d6c9907b2f9937124da548b3d0b29f944482ed4f21", func := "ergo/ergolaw02.ArithSums", spec := "arithSums", inPlace := ["math/bits.Add64"], apart := false }
def ArithSumsSaid : Prop := arithSumsRow.holds Try.pinned (OpenSpec.ofChange arithSumsSpec)

/-- ITS FALSE NEIGHBOUR: 'it returns false'. Refute it at one input. -/
def arithSumsWrong : ChangeSpec := { name := "arithSums", fn := fun _ => fun
  | [d1, d2] => { results := [.lit (.bool false)], args := [d1, d2] }
  | _ => none }
def ArithSumsWrongFalsely : Prop := arithSumsRow.holds Try.pinned (OpenSpec.ofChange arithSumsWrong)

/-- 'ergolaw02.ArithProducts': WHATEVER THE INPUT: true; the input reads as it did. -/
def arithProductsSpec : ChangeSpec := { name := "arithProducts", fn := fun _ => fun
  | [d1, d2] => { results := [.lit (.bool true)], args := [d1, d2] }
  | _ => none }
def arithProductsRow : OpenClaim := { program := "yteamoapmgnbgmaa", sum := "41f1252c57cb6397f69dc9d6c9907b2f9937124da548b3d0b29f944482ed4f21", func := "ergo/ergolaw02.ArithProducts", spec := "arithProducts", apart := false }
def ArithProductsSaid : Prop := arithProductsRow.holds Try.pinned (OpenSpec.ofChange arithProductsSpec)

/-- ITS FALSE NEIGHBOUR: 'it returns false'. Refute it at one input. -/
def arithProductsWrong : ChangeSpec := { name := "arithProducts", fn := fun _ => fun
  | [d1, d2] => { results := [.lit (.bool false)], args := [d1, d2] }
  | _ => none }
def ArithProductsWrongFalsely : Prop := arithProductsRow.holds Try.pinned (OpenSpec.ofChange arithProductsWrong)

/-- 'ergolaw02.ArithTotals': WHATEVER THE INPUT: true; the input reads as it did. -/
def arithTotalsSpec : ChangeSpec := { name := "arithTotals", fn := fun _ => fun
  | [d1, d2] => { results := [.lit (.bool true)], args := [d1, d2] }
  | _ => none }
def arithTotalsRow : OpenClaim := { program := "yteamoapmgnbgmaa", sum := "41f1252c57cb6397f69dc9d6c9907b2f9937124da548b3d0b29f944482ed4f21", func := "ergo/ergolaw02.ArithTotals", spec := "arithTotals", apart := false }
def ArithTotalsSaid : Prop := arithTotalsRow.holds Try.pinned (OpenSpec.ofChange arithTotalsSpec)

/-- ITS FALSE NEIGHBOUR: 'it returns false'. Refute it at one input. -/
def arithTotalsWrong : ChangeSpec := { name := "arithTotals", fn := fun _ => fun
  | [d1, d2] => { results := [.lit (.bool false)], args := [d1, d2] }
  | _ => none }
def ArithTotalsWrongFalsely : Prop := arithTotalsRow.holds Try.pinned (OpenSpec.ofChange arithTotalsWrong)

/- THE SECOND FORM. 'bulk': how many values and letters a reading holds, each counted each time it is reached (what is shared counts as often as it is met; a slice's spare places count too). A statement '..UptoSaid' is the law's where the arguments, and the package variables that the reading takes, are together of bulk at most 1048576: NARROWER than '..Said'. Prove '..Said' where nothing that the law and all that it calls make is longer than what came in: it says more and counts as full. Else prove '..UptoSaid'. A law counts once. -/
mutual
def uptoBulk {H : Type} : DataW H → Nat
  | .lit (.string bytes) => bytes.length + 1
  | .lit _ => 1
  | .nil => 1
  | .ptr d => uptoBulk d + 1
  | .slice elems spare => uptoBulkAll elems + uptoBulkAll spare + 1
  | .agg parts => uptoBulkAll parts + 1
  | .iface _ d => uptoBulk d + 1
  | .map entries => uptoBulkEntries entries + 1
  | .held _ => 1
def uptoBulkAll {H : Type} : List (DataW H) → Nat
  | [] => 0
  | d :: r => uptoBulk d + uptoBulkAll r
def uptoBulkEntries {H : Type} : List (Lit × DataW H) → Nat
  | [] => 0
  | x :: r => uptoBulkEntry x + uptoBulkEntries r
def uptoBulkEntry {H : Type} : Lit × DataW H → Nat
  | (.string bytes, d) => bytes.length + uptoBulk d + 1
  | (_, d) => uptoBulk d + 1
 end
def uptoSmall : (H : Type) → List (DataW H) → Bool := fun _ ds => decide (uptoBulkAll ds ≤ 1048576)
def OpenSpec.upto (s : _root_.Go.ChangeSpec) : _root_.Go.OpenSpec := { _root_.Go.OpenSpec.ofChange s with cond := some uptoSmall }

/-- 'ergolaw02.ArithParts', WHERE WHAT IT READS IS OF BULK AT MOST 1048576: true; the input reads as it did. -/
def arithPartsUptoRow : OpenClaim := { program := "yteamoapmgnbgmaa", sum := "41f1252c57cb6397f69dc9d6c9907b2f9937124da548b3d0b29f944482ed4f21", func := "ergo/ergolaw02.ArithParts", spec := "arithParts", apart := false, narrowed := true }
def ArithPartsUptoSaid : Prop := arithPartsUptoRow.holds Try.pinned (OpenSpec.upto arithPartsSpec)

/-- 'ergolaw02.ArithBounds', WHERE WHAT IT READS IS OF BULK AT MOST 1048576: true; the input reads as it did. -/
def arithBoundsUptoRow : OpenClaim := { program := "yteamoapmgnbgmaa", sum := "41f1252c57cb6397f69dc9d6c9907b2f9937124da548b3d0b29f944482ed4f21", func := "ergo/ergolaw02.ArithBounds", spec := "arithBounds", apart := false, narrowed := true }
def ArithBoundsUptoSaid : Prop := arithBoundsUptoRow.holds Try.pinned (OpenSpec.upto arithBoundsSpec)

/-- 'ergolaw02.ArithLaws', WHERE WHAT IT READS IS OF BULK AT MOST 1048576: true; the input reads as it did. -/
def arithLawsUptoRow : OpenClaim := { program := "yteamoapmgnbgmaa", sum := "41f1252c57cb6397f69dc9d6c9907b2f9937124da548b3d0b29f944482ed4f21", func := "ergo/ergolaw02.ArithLaws", spec := "arithLaws", apart := false, narrowed := true }
def ArithLawsUptoSaid : Prop := arithLawsUptoRow.holds Try.pinned (OpenSpec.upto arithLawsSpec)

/-- 'ergolaw02.ArithBacks', WHERE WHAT IT READS IS OF BULK AT MOST 1048576: true; the input reads as it did. -/
def arithBacksUptoRow : OpenClaim := { program := "yteamoapmgnbgmaa", sum := "41f1252c57cb6397f69dc9d6c9907b2f9937124da548b3d0b29f944482ed4f21", func := "ergo/ergolaw02.ArithBacks", spec := "arithBacks", apart := false, narrowed := true }
def ArithBacksUptoSaid : Prop := arithBacksUptoRow.holds Try.pinned (OpenSpec.upto arithBacksSpec)

/-- 'ergolaw02.ArithSums', WHERE WHAT IT READS IS OF BULK AT MOST 1048576: true; the input reads as it did. -/
def arithSumsUptoRow : OpenClaim := { program := "yteamoapmgnbgmaa", sum := "41f1252c57cb6397f69dc9d6c9907b2f9937124da548b3d0b29f944482ed4f21", func := "ergo/ergolaw02.ArithSums", spec := "arithSums", inPlace := ["math/bits.Add64"], apart := false, narrowed := true }
def ArithSumsUptoSaid : Prop := arithSumsUptoRow.holds Try.pinned (OpenSpec.upto arithSumsSpec)

/-- 'ergolaw02.ArithProducts', WHERE WHAT IT READS IS OF BULK AT MOST 1048576: true; the input reads as it did. -/
def arithProductsUptoRow : OpenClaim := { program := "yteamoapmgnbgmaa", sum := "41f1252c57cb6397f69dc9d6c9907b2f9937124da548b3d0b29f944482ed4f21", func := "ergo/ergolaw02.ArithProducts", spec := "arithProducts", apart := false, narrowed := true }
def ArithProductsUptoSaid : Prop := arithProductsUptoRow.holds Try.pinned (OpenSpec.upto arithProductsSpec)

/-- 'ergolaw02.ArithTotals', WHERE WHAT IT READS IS OF BULK AT MOST 1048576: true; the input reads as it did. -/
def arithTotalsUptoRow : OpenClaim := { program := "yteamoapmgnbgmaa", sum := "41f1252c57cb6397f69dc9d6c9907b2f9937124da548b3d0b29f944482ed4f21", func := "ergo/ergolaw02.ArithTotals", spec := "arithTotals", apart := false, narrowed := true }
def ArithTotalsUptoSaid : Prop := arithTotalsUptoRow.holds Try.pinned (OpenSpec.upto arithTotalsSpec)

end Rows
end Go.Proofs.Yteamoapmgnbgmaa
