/-
  DERIVED: THE SHELF's CONTRACTS AT THIS DUMP, IN PLAIN WORDS (tools/lay-plain.mjs out of 'TryShelf.lean', which tools/lay-shelf.mjs wrote): THE SAME DECLARATIONS UNDER THE SAME NAMES: 'import', 'namespace', 'open', 'def', 'theorem' AND NOTHING ELSE: no command of the shelf's: FOR A HAND-IN. Each laying: the table of numbers ('.._ren') and one theorem, a field a fact of the dump's own or the kernel's comparison; each contract: ONE APPLICATION.
-/
import Derived.Shelf.SlGeneric
import Derived.Shelf.Small.Bits
import Derived.Shelf.Strconv.Itoa0
import Derived.Ground.SlgnProg
import Derived.Shelf.SlicesE.Equal
import Derived.Shelf.SlicesE.Clone
import Derived.Ground.SlsfProg
import Derived.Shelf.SlSortCmp.Insertion
import Derived.Shelf.SlSortCmp.SiftDown1
import Derived.Shelf.SlSortCmp.HeapSort1
import Derived.Shelf.SlSortCmp.Insertion1
import Derived.Shelf.SlSortCmp.Median1
import Derived.Shelf.SlSortCmp.Pivot1
import Derived.Shelf.SlSortCmp.ReverseRange1
import Derived.Shelf.SlSortCmp.PartialInsertion1
import Derived.Shelf.SlSortCmp.PartitionEqual1
import Derived.Shelf.SlSortCmp.Partition1
import Derived.Shelf.SlSortCmp.Pdq1
import Derived.Shelf.SlSortCmp.Whole1
import Derived.Shelf.SlSortCmp.NoneTotal
import Derived.Test.YtalbgdbphdhhaaaProg
namespace Go.Proofs
open Go.Shelf
def Try.laysSlF6_f37_ren : Go.Shelf.Ren := ⟨fun | 6 => 37 | 15 => 54 | 14 => 53 | 28 => 68 | 29 => 69 | 20 => 60 | 21 => 61 | 22 => 62 | 23 => 63 | 24 => 64 | 25 => 65 | 26 => 66 | 27 => 67 | 46 => 72 | 47 => 73 | 48 => 74 | 49 => 75 | 50 => 76 | 57 => 77 | n => n, fun | 22 => 28 | 24 => 23 | 25 => 63 | 3 => 3 | 39 => 25 | 0 => 0 | 53 => 99 | 55 => 81 | 4 => 4 | 46 => 93 | 45 => 92 | 50 => 61 | 5 => 5 | 9 => 9 | 66 => 103 | 70 => 107 | 76 => 109 | 77 => 64 | n => n, fun | n => n⟩
theorem Try.laysSlF6_f37 : Go.Proofs.SlLaysF.n6 Try.prog Try.laysSlF6_f37_ren := {
  mixed := by kernel_rfl
  f6 := ⟨Try.f37.name, by decide, Try.func37.trans (congrArg some (by kernel_rfl))⟩
  f14 := ⟨Try.f53.name, by decide, Try.func53.trans (congrArg some (by kernel_rfl))⟩
  f15 := Try.func54.trans (congrArg some (by kernel_rfl))
  f20 := ⟨Try.f60.name, by decide, Try.func60.trans (congrArg some (by kernel_rfl))⟩
  f21 := ⟨Try.f61.name, by decide, Try.func61.trans (congrArg some (by kernel_rfl))⟩
  f22 := ⟨Try.f62.name, by decide, Try.func62.trans (congrArg some (by kernel_rfl))⟩
  f23 := ⟨Try.f63.name, by decide, Try.func63.trans (congrArg some (by kernel_rfl))⟩
  f24 := ⟨Try.f64.name, by decide, Try.func64.trans (congrArg some (by kernel_rfl))⟩
  f25 := ⟨Try.f65.name, by decide, Try.func65.trans (congrArg some (by kernel_rfl))⟩
  f26 := ⟨Try.f66.name, by decide, Try.func66.trans (congrArg some (by kernel_rfl))⟩
  f27 := ⟨Try.f67.name, by decide, Try.func67.trans (congrArg some (by kernel_rfl))⟩
  f28 := Try.func68.trans (congrArg some (by kernel_rfl))
  f29 := Try.func69.trans (congrArg some (by kernel_rfl))
  f46 := ⟨Try.f72.name, by decide, Try.func72.trans (congrArg some (by kernel_rfl))⟩
  f47 := Try.func73.trans (congrArg some (by kernel_rfl))
  f48 := Try.func74.trans (congrArg some (by kernel_rfl))
  f49 := ⟨Try.f75.name, by decide, Try.func75.trans (congrArg some (by kernel_rfl))⟩
  f50 := ⟨Try.f76.name, by decide, Try.func76.trans (congrArg some (by kernel_rfl))⟩
  f57 := ⟨Try.f77.name, by decide, Try.func77.trans (congrArg some (by kernel_rfl))⟩
  t0 := Try.underlying0
  a0 := Try.isAgg0
  z0 := Try.sizeOf0
  v0 := Try.zeroValue0
  t3 := Try.underlying3
  a3 := Try.isAgg3
  z3 := Try.sizeOf3
  v3 := Try.zeroValue3
  t4 := Try.underlying4
  a4 := Try.isAgg4
  z4 := Try.sizeOf4
  v4 := Try.zeroValue4
  t5 := Try.underlying5
  a5 := Try.isAgg5
  z5 := Try.sizeOf5
  v5 := Try.zeroValue5
  t9 := Try.underlying9
  a9 := Try.isAgg9
  z9 := Try.sizeOf9
  v9 := Try.zeroValue9
  t22 := Try.underlying28
  a22 := Try.isAgg28
  z22 := Try.sizeOf28
  v22 := Try.zeroValue28
  a24 := Try.isAgg23
  z24 := Try.sizeOf23
  t25 := Try.underlying63
  a25 := Try.isAgg63
  z25 := Try.sizeOf63
  v25 := Try.zeroValue63
  t39 := Try.underlying25
  a39 := Try.isAgg25
  z39 := Try.sizeOf25
  v39 := Try.zeroValue25
  t45 := Try.underlying92
  a45 := Try.isAgg92
  z45 := Try.sizeOf92
  v45 := Try.zeroValue92
  t46 := Try.underlying93
  a46 := Try.isAgg93
  z46 := Try.sizeOf93
  v46 := Try.zeroValue93
  t50 := Try.underlying61
  a50 := Try.isAgg61
  z50 := Try.sizeOf61
  v50 := Try.zeroValue61
  t53 := Try.underlying99
  a53 := Try.isAgg99
  z53 := Try.sizeOf99
  v53 := Try.zeroValue99
  t55 := Try.underlying81
  a55 := Try.isAgg81
  z55 := Try.sizeOf81
  v55 := Try.zeroValue81
  t66 := Try.underlying103
  a66 := Try.isAgg103
  z66 := Try.sizeOf103
  v66 := Try.zeroValue103
  t70 := Try.underlying107
  a70 := Try.isAgg107
  z70 := Try.sizeOf107
  v70 := Try.zeroValue107
  t76 := Try.underlying109
  a76 := Try.isAgg109
  z76 := Try.sizeOf109
  v76 := Try.zeroValue109
  t77 := Try.underlying64
  a77 := Try.isAgg64
  z77 := Try.sizeOf64
  v77 := Try.zeroValue64 }
def Try.laysSlF06_f37_ren : Go.Shelf.Ren := ⟨fun | 6 => 37 | 15 => 54 | 14 => 53 | 28 => 68 | 29 => 69 | 20 => 60 | 21 => 61 | 22 => 62 | 23 => 63 | 24 => 64 | 25 => 65 | 26 => 66 | 27 => 67 | 46 => 72 | 47 => 73 | 48 => 74 | 49 => 75 | 50 => 76 | 57 => 77 | n => n, fun | 22 => 28 | 24 => 23 | 25 => 63 | 3 => 3 | 39 => 25 | 0 => 0 | 53 => 99 | 55 => 81 | 4 => 4 | 46 => 93 | 45 => 92 | 50 => 61 | 5 => 5 | 9 => 9 | 66 => 103 | 70 => 107 | 76 => 109 | 77 => 64 | n => n, fun | n => n⟩
theorem Try.laysSlF06_f37 : Go.Proofs.SlLaysF0.n6 Try.prog Try.laysSlF06_f37_ren := {
  mixed := by kernel_rfl
  f6 := ⟨Try.f37.name, by decide, Try.func37.trans (congrArg some (by kernel_rfl))⟩
  f14 := ⟨Try.f53.name, by decide, Try.func53.trans (congrArg some (by kernel_rfl))⟩
  f15 := Try.func54.trans (congrArg some (by kernel_rfl))
  f20 := ⟨Try.f60.name, by decide, Try.func60.trans (congrArg some (by kernel_rfl))⟩
  f21 := ⟨Try.f61.name, by decide, Try.func61.trans (congrArg some (by kernel_rfl))⟩
  f22 := ⟨Try.f62.name, by decide, Try.func62.trans (congrArg some (by kernel_rfl))⟩
  f23 := ⟨Try.f63.name, by decide, Try.func63.trans (congrArg some (by kernel_rfl))⟩
  f24 := ⟨Try.f64.name, by decide, Try.func64.trans (congrArg some (by kernel_rfl))⟩
  f25 := ⟨Try.f65.name, by decide, Try.func65.trans (congrArg some (by kernel_rfl))⟩
  f26 := ⟨Try.f66.name, by decide, Try.func66.trans (congrArg some (by kernel_rfl))⟩
  f27 := ⟨Try.f67.name, by decide, Try.func67.trans (congrArg some (by kernel_rfl))⟩
  f28 := Try.func68.trans (congrArg some (by kernel_rfl))
  f29 := Try.func69.trans (congrArg some (by kernel_rfl))
  f46 := ⟨Try.f72.name, by decide, Try.func72.trans (congrArg some (by kernel_rfl))⟩
  f47 := Try.func73.trans (congrArg some (by kernel_rfl))
  f48 := Try.func74.trans (congrArg some (by kernel_rfl))
  f49 := ⟨Try.f75.name, by decide, Try.func75.trans (congrArg some (by kernel_rfl))⟩
  f50 := ⟨Try.f76.name, by decide, Try.func76.trans (congrArg some (by kernel_rfl))⟩
  f57 := ⟨Try.f77.name, by decide, Try.func77.trans (congrArg some (by kernel_rfl))⟩
  t0 := Try.underlying0
  a0 := Try.isAgg0
  z0 := Try.sizeOf0
  v0 := Try.zeroValue0
  t3 := Try.underlying3
  a3 := Try.isAgg3
  z3 := Try.sizeOf3
  v3 := Try.zeroValue3
  t4 := Try.underlying4
  a4 := Try.isAgg4
  z4 := Try.sizeOf4
  v4 := Try.zeroValue4
  t5 := Try.underlying5
  a5 := Try.isAgg5
  z5 := Try.sizeOf5
  v5 := Try.zeroValue5
  t9 := Try.underlying9
  a9 := Try.isAgg9
  z9 := Try.sizeOf9
  v9 := Try.zeroValue9
  t22 := Try.underlying28
  a22 := Try.isAgg28
  z22 := Try.sizeOf28
  v22 := Try.zeroValue28
  t25 := Try.underlying63
  a25 := Try.isAgg63
  z25 := Try.sizeOf63
  v25 := Try.zeroValue63
  t39 := Try.underlying25
  a39 := Try.isAgg25
  z39 := Try.sizeOf25
  v39 := Try.zeroValue25
  t45 := Try.underlying92
  a45 := Try.isAgg92
  z45 := Try.sizeOf92
  v45 := Try.zeroValue92
  t46 := Try.underlying93
  a46 := Try.isAgg93
  z46 := Try.sizeOf93
  v46 := Try.zeroValue93
  t50 := Try.underlying61
  a50 := Try.isAgg61
  z50 := Try.sizeOf61
  v50 := Try.zeroValue61
  t53 := Try.underlying99
  a53 := Try.isAgg99
  z53 := Try.sizeOf99
  v53 := Try.zeroValue99
  t55 := Try.underlying81
  a55 := Try.isAgg81
  z55 := Try.sizeOf81
  v55 := Try.zeroValue81
  t66 := Try.underlying103
  a66 := Try.isAgg103
  z66 := Try.sizeOf103
  v66 := Try.zeroValue103
  t70 := Try.underlying107
  a70 := Try.isAgg107
  z70 := Try.sizeOf107
  v70 := Try.zeroValue107
  t76 := Try.underlying109
  a76 := Try.isAgg109
  z76 := Try.sizeOf109
  v76 := Try.zeroValue109
  t77 := Try.underlying64
  a77 := Try.isAgg64
  z77 := Try.sizeOf64
  v77 := Try.zeroValue64 }
open Go.RowKit Go.Lib Go.Sort in
/-- **slices.SortFunc, IN THE DOCUMENTATION's OWN TERMS: A PERMUTATION OF WHAT THE ROW HELD, SORTED BY 'cmp(a, b) < 0'.** Which of two equals comes first is left open ("The sort is not guaranteed to be stable"). (LAID AT THE INSTANCE 'slices.SortFunc[[][]int64,[]int64]': no walk: one application.) -/
theorem Try.slices_SortFunc {α : Type} [Inhabited α] (enc : α → Value) (h1 : OneCell enc) (cf : α → α → Int) (hO : SWO (ltOf cf)) (g : Nat) (cb : Array Value) (blk off cap : Nat) (d : Array α) (w : World) (eg : ∀ args w, (callFunc g args).run Try.prog w = .ok (.enter g args) w) (hcmp : CmpLays1 Try.prog g cb enc cf blk off d.size w) (hH : Holds enc w blk off d) (hblk : blk < w.heap.size) (hsz : d.size < 4611686018427387904) :
    Calls Try.prog 37 #[.slice (some ⟨blk, off, none⟩) d.size cap, .func (.func g) #[] cb] w fun e w' =>
      e = .returned (.tuple #[]) ∧ ∃ d' n os, PermIn 0 d.size d d' ∧ SortedIn (ltOf cf) 0 d.size d' ∧ w' = sortWorld enc w blk off n d' os := Any.slices_SortFunc Try.laysSlF6_f37 enc h1 cf hO g cb blk off cap d w eg hcmp hH hblk hsz
open Go.RowKit Go.Lib Go.Sort in
/-- **slices.SortFunc AT NO ELEMENT, A nil SLICE TOO: nothing turns.** (LAID AT THE INSTANCE 'slices.SortFunc[[][]int64,[]int64]': no walk: one application.) -/
theorem Try.slices_SortFunc_none {α : Type} [Inhabited α] (p : Option Addr) (cap : Nat) (fv : Value) (w : World) :
    Calls Try.prog 37 #[.slice p 0 cap, fv] w fun e w' => e = .returned (.tuple #[]) ∧ w' = w := AnyF.slices_SortFunc_none Try.laysSlF06_f37 p cap fv w
end Go.Proofs
