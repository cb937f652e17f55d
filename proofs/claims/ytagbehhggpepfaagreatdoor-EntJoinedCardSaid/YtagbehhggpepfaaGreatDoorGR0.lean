-- printed by a copy of the kit's print, with given functions (wip/tools/gprint.py)
import Derived.Test.YtagbehhggpepfaaGreatDoorProg
import Derived.Below
import Derived.Deep.Draws
import Derived.Deep.AppendLies
import Derived.Maps.AppendAt
import Derived.OwnWalk
import Derived.Laws.BytesArg
import Derived.Laws.MakeOwn
import Derived.Laws.OwnMore
import Derived.Deep.OwnRows
import Derived.Tactics
import Derived.Lib.ConvBytes
import Derived.Laws.Slices
import Derived.WalkKit
import Derived.KernelRfl
import Derived.RowKit3
import Derived.Deep.LoopGhost
import Derived.Deep.QuietTactic
import Derived.BigQuiet
import Derived.WideLaws
import Derived.Deep.DeepCutAuto
import Derived.Deep.CutBlock
import Derived.Deep.RegionHeld3
import Derived.Laws.Rows
import Derived.Lib.AppendStr
import Derived.ArgAppend
import Derived.Laws.IdiomCopy
import Derived.OrdersHeld
import Derived.Laws.BitsLemmas
import Derived.RowKit
import Derived.Test.YtagbehhggpepfaaGreatDoorLaw
import Derived.Test.YtagbehhggpepfaaGreatDoorWWords
import Derived.Test.YtagbehhggpepfaaGreatDoorWLast
import Derived.Test.YtagbehhggpepfaaGreatDoorWTab
import Derived.Test.YtagbehhggpepfaaGreatDoorWFour
import Derived.Test.YtagbehhggpepfaaGreatDoorWQPut
import Derived.Test.YtagbehhggpepfaaGreatDoorWApart
import Derived.Test.YtagbehhggpepfaaGreatDoorWArr
import Derived.Test.YtagbehhggpepfaaGreatDoorWZeros
import Derived.Test.YtagbehhggpepfaaGreatDoorWFoot
import Derived.Test.YtagbehhggpepfaaGreatDoorWKept
import Derived.Test.YtagbehhggpepfaaGreatDoorWShare
import Derived.Test.YtagbehhggpepfaaGreatDoorWN
import Derived.Test.YtagbehhggpepfaaGreatDoorWFootNe
import Derived.Test.YtagbehhggpepfaaGreatDoorWAt
import Derived.Test.YtagbehhggpepfaaGreatDoorWEqStruct
import Derived.Test.YtagbehhggpepfaaGreatDoorWRepsOne
import Derived.Test.YtagbehhggpepfaaGreatDoorWInv
import Derived.Test.YtagbehhggpepfaaGreatDoorWInvWords
import Derived.Test.YtagbehhggpepfaaGreatDoorWGuard
import Derived.Test.YtagbehhggpepfaaGreatDoorWNEv
import Derived.Test.YtagbehhggpepfaaGreatDoorWMore
namespace Go.Proofs.YtagbehhggpepfaaGreatDoor.GR
open Go.RowKit Go.Proofs.YtagbehhggpepfaaGreatDoorW.PrintWords Go.Proofs.YtagbehhggpepfaaGreatDoorW.PrintLast Go.Proofs.YtagbehhggpepfaaGreatDoorW.PrintMore
attribute [local go_sem] max2_int min2_int max_two min_two max_three min_three max_four min_four   -- for this text's walks alone
set_option linter.unusedVariables false
set_option linter.unusedSimpArgs false



def errW : Option Int → Value
  | none => .nilIface
  | some c => .iface 0 (.int .i64 c)
theorem errW_none : errW none = .nilIface := rfl
theorem errW_some (c : Int) : errW (some c) = .iface 0 (.int .i64 c) := rfl

theorem info3 : (Tryz.prog.info? 3).map (fun i => (i.zero, i.size, i.bytes)) = some (some (.int .i64 0), 1, 8) := by kernel_rfl
theorem info5 : (Tryz.prog.info? 5).map (fun i => (i.zero, i.size, i.bytes)) = some (some (.int .u8 0), 1, 1) := by kernel_rfl
-- the values' own types

end Go.Proofs.YtagbehhggpepfaaGreatDoor.GR
