/- What closed calls of this program answer (text 12). No condition. Printed by mkaw.py. -/
import Derived.Test.YtnglahcjemgcaaaGreatDoorK15
namespace Go.Proofs.YtnglahcjemgcaaaGreatDoor
open Go.RowKit

theorem axk45_ok : cutOk axk45 = true := by kernel_rfl
set_option maxRecDepth 1000000 in
theorem axk45_run : chkOut axk45 (run (envP Tryz.prog axk45_h) 100000 axk45.f axk45.args (addAll axk45.pre .nil) axk45.n) = true := by kernel_rfl
theorem axk46_ok : cutOk axk46 = true := by kernel_rfl
set_option maxRecDepth 1000000 in
theorem axk46_run : chkOut axk46 (run (envP Tryz.prog axk46_h) 100000 axk46.f axk46.args (addAll axk46.pre .nil) axk46.n) = true := by kernel_rfl
end Go.Proofs.YtnglahcjemgcaaaGreatDoor
