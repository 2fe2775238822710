-- Written for this claim by a program of this session (around the kit's print).
import Derived.Test.YtpponaflfpafnaaProg
import Derived.Below
import Derived.Deep.Draws
import Derived.Deep.AppendLies
import Derived.Maps.AppendAt
import Derived.OwnWalk
import Derived.Laws.BytesArg
import Derived.Laws.MakeOwn
import Derived.Laws.OwnMore
import Derived.Deep.OwnRows
import Derived.Tactics
import Derived.Lib.ConvBytes
import Derived.Laws.Slices
import Derived.WalkKit
import Derived.KernelRfl
import Derived.RowKit3
import Derived.Deep.LoopGhost
import Derived.Deep.QuietTactic
import Derived.BigQuiet
import Derived.WideLaws
import Derived.Deep.DeepCutAuto
import Derived.Deep.CutBlock
import Derived.Deep.RegionHeld3
import Derived.Laws.Rows
import Derived.Lib.AppendStr
import Derived.ArgAppend
import Derived.Laws.IdiomCopy
import Derived.OrdersHeld
import Derived.Laws.BitsLemmas
import Derived.RowKit
import Derived.Test.YtpponaflfpafnaaWWords
import Derived.Test.YtpponaflfpafnaaWLast
import Derived.Test.YtpponaflfpafnaaWTab
import Derived.Test.YtpponaflfpafnaaWFour
import Derived.Test.YtpponaflfpafnaaWQPut
import Derived.Test.YtpponaflfpafnaaWApart
import Derived.Test.YtpponaflfpafnaaWArr
import Derived.Test.YtpponaflfpafnaaWZeros
import Derived.Test.YtpponaflfpafnaaWFoot
import Derived.Test.YtpponaflfpafnaaWKept
import Derived.Test.YtpponaflfpafnaaWShare
import Derived.Test.YtpponaflfpafnaaWN
import Derived.Test.YtpponaflfpafnaaWFootNe
import Derived.Test.YtpponaflfpafnaaWAt
import Derived.Test.YtpponaflfpafnaaWEqStruct
import Derived.Test.YtpponaflfpafnaaWRepsOne
import Derived.Test.YtpponaflfpafnaaWInv
import Derived.Test.YtpponaflfpafnaaWInvWords
import Derived.Test.YtpponaflfpafnaaWGuard
import Derived.Test.YtpponaflfpafnaaWNEv
import Derived.Test.YtpponaflfpafnaaWMore
namespace Go.Proofs.Ytpponaflfpafnaa.XAll
open Go.RowKit Go.Proofs.YtpponaflfpafnaaW.PrintWords Go.Proofs.YtpponaflfpafnaaW.PrintLast Go.Proofs.YtpponaflfpafnaaW.PrintMore
attribute [local go_sem] max2_int min2_int max_two min_two max_three min_three max_four min_four   -- for this text's walks alone
set_option linter.unusedVariables false
set_option linter.unusedSimpArgs false



def errW : Option Int → Value
  | none => .nilIface
  | some c => .iface 0 (.int .i64 c)
theorem errW_none : errW none = .nilIface := rfl
theorem errW_some (c : Int) : errW (some c) = .iface 0 (.int .i64 c) := rfl

theorem info2 : (Try.prog.info? 2).map (fun i => (i.zero, i.size, i.bytes)) = some (some (.int .i64 0), 1, 8) := by kernel_rfl
theorem info3 : (Try.prog.info? 3).map (fun i => (i.zero, i.size, i.bytes)) = some (some (.int .i64 0), 1, 8) := by kernel_rfl
theorem info4 : (Try.prog.info? 4).map (fun i => (i.zero, i.size, i.bytes)) = some (some (.bool false), 1, 1) := by kernel_rfl
theorem info9 : (Try.prog.info? 9).map (fun i => (i.zero, i.size, i.bytes)) = some (some (.string ⟨#[]⟩), 1, 16) := by kernel_rfl
-- the values' own types

end Go.Proofs.Ytpponaflfpafnaa.XAll
