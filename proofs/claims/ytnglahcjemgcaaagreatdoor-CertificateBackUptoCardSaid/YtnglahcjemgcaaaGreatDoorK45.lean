/- What closed calls of this program answer (text 30). No condition. Printed by mkaw.py. -/
import Derived.Test.YtnglahcjemgcaaaGreatDoorK15
namespace Go.Proofs.YtnglahcjemgcaaaGreatDoor
open Go.RowKit

theorem axk260_ok : cutOk axk260 = true := by kernel_rfl
set_option maxRecDepth 1000000 in
theorem axk260_run : chkOut axk260 (run (envP Tryz.prog axk260_h) 100000 axk260.f axk260.args (addAll axk260.pre .nil) axk260.n) = true := by kernel_rfl
end Go.Proofs.YtnglahcjemgcaaaGreatDoor
