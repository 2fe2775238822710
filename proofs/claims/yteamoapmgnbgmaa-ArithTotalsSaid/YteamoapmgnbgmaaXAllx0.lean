-- Written for this claim by a program of this session (around the kit's print).
import Derived.Test.YteamoapmgnbgmaaProg
import Derived.Below
import Derived.Deep.Draws
import Derived.Deep.AppendLies
import Derived.Maps.AppendAt
import Derived.OwnWalk
import Derived.Laws.BytesArg
import Derived.Laws.MakeOwn
import Derived.Laws.OwnMore
import Derived.Deep.OwnRows
import Derived.Tactics
import Derived.Lib.ConvBytes
import Derived.Laws.Slices
import Derived.WalkKit
import Derived.KernelRfl
import Derived.RowKit3
import Derived.Deep.LoopGhost
import Derived.Deep.QuietTactic
import Derived.BigQuiet
import Derived.WideLaws
import Derived.Deep.DeepCutAuto
import Derived.Deep.CutBlock
import Derived.Deep.RegionHeld3
import Derived.Laws.Rows
import Derived.Lib.AppendStr
import Derived.ArgAppend
import Derived.Laws.IdiomCopy
import Derived.OrdersHeld
import Derived.Laws.BitsLemmas
import Derived.RowKit
import Derived.Laws.Externs
import Derived.Test.YteamoapmgnbgmaaWWords
import Derived.Test.YteamoapmgnbgmaaWLast
import Derived.Test.YteamoapmgnbgmaaWTab
import Derived.Test.YteamoapmgnbgmaaWFour
import Derived.Test.YteamoapmgnbgmaaWQPut
import Derived.Test.YteamoapmgnbgmaaWApart
import Derived.Test.YteamoapmgnbgmaaWArr
import Derived.Test.YteamoapmgnbgmaaWZeros
import Derived.Test.YteamoapmgnbgmaaWFoot
import Derived.Test.YteamoapmgnbgmaaWKept
import Derived.Test.YteamoapmgnbgmaaWShare
import Derived.Test.YteamoapmgnbgmaaWN
import Derived.Test.YteamoapmgnbgmaaWFootNe
import Derived.Test.YteamoapmgnbgmaaWAt
import Derived.Test.YteamoapmgnbgmaaWEqStruct
import Derived.Test.YteamoapmgnbgmaaWRepsOne
import Derived.Test.YteamoapmgnbgmaaWInv
import Derived.Test.YteamoapmgnbgmaaWInvWords
import Derived.Test.YteamoapmgnbgmaaWGuard
import Derived.Test.YteamoapmgnbgmaaWNEv
import Derived.Test.YteamoapmgnbgmaaWMore
namespace Go.Proofs.Yteamoapmgnbgmaa.XAll
open Go.RowKit Go.Proofs.YteamoapmgnbgmaaW.PrintWords Go.Proofs.YteamoapmgnbgmaaW.PrintLast Go.Proofs.YteamoapmgnbgmaaW.PrintMore
attribute [local go_sem] max2_int min2_int max_two min_two max_three min_three max_four min_four   -- for this text's walks alone
set_option linter.unusedVariables false
set_option linter.unusedSimpArgs false



def errW : Option Int → Value
  | none => .nilIface
  | some c => .iface 0 (.int .i64 c)
theorem errW_none : errW none = .nilIface := rfl
theorem errW_some (c : Int) : errW (some c) = .iface 0 (.int .i64 c) := rfl

theorem info2 : (Try.prog.info? 2).map (fun i => (i.zero, i.size, i.bytes)) = some (some (.int .i64 0), 1, 8) := by kernel_rfl
theorem info9 : (Try.prog.info? 9).map (fun i => (i.zero, i.size, i.bytes)) = some (some (.string ⟨#[]⟩), 1, 16) := by kernel_rfl
-- the values' own types

end Go.Proofs.Yteamoapmgnbgmaa.XAll
