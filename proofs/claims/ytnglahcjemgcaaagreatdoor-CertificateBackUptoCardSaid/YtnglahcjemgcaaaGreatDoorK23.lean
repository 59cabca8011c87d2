/- What closed calls of this program answer (text 8). No condition. Printed by mkaw.py. -/
import Derived.Test.YtnglahcjemgcaaaGreatDoorK15
namespace Go.Proofs.YtnglahcjemgcaaaGreatDoor
open Go.RowKit

theorem axk32_ok : cutOk axk32 = true := by kernel_rfl
set_option maxRecDepth 1000000 in
theorem axk32_run : chkOut axk32 (run (envP Tryz.prog axk32_h) 100000 axk32.f axk32.args (addAll axk32.pre .nil) axk32.n) = true := by kernel_rfl
end Go.Proofs.YtnglahcjemgcaaaGreatDoor
