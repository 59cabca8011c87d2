/- What closed calls of this program answer (text 2). No condition. Printed by mkaw.py. -/
import Derived.Test.YtnglahcjemgcaaaGreatDoorK15
namespace Go.Proofs.YtnglahcjemgcaaaGreatDoor
open Go.RowKit

theorem axk8_ok : cutOk axk8 = true := by kernel_rfl
set_option maxRecDepth 1000000 in
theorem axk8_run : chkOut axk8 (run (envP Tryz.prog axk8_h) 100000 axk8.f axk8.args (addAll axk8.pre .nil) axk8.n) = true := by kernel_rfl
end Go.Proofs.YtnglahcjemgcaaaGreatDoor
