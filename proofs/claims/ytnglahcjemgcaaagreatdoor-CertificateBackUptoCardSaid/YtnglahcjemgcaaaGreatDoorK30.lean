/- What closed calls of this program answer (text 15). No condition. Printed by mkaw.py. -/
import Derived.Test.YtnglahcjemgcaaaGreatDoorK15
namespace Go.Proofs.YtnglahcjemgcaaaGreatDoor
open Go.RowKit

theorem axk54_ok : cutOk axk54 = true := by kernel_rfl
set_option maxRecDepth 1000000 in
theorem axk54_run : chkOut axk54 (run (envP Tryz.prog axk54_h) 100000 axk54.f axk54.args (addAll axk54.pre .nil) axk54.n) = true := by kernel_rfl
end Go.Proofs.YtnglahcjemgcaaaGreatDoor
