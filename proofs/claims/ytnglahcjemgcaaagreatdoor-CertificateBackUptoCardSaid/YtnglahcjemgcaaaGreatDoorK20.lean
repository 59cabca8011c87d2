/- What closed calls of this program answer (text 5). No condition. Printed by mkaw.py. -/
import Derived.Test.YtnglahcjemgcaaaGreatDoorK15
namespace Go.Proofs.YtnglahcjemgcaaaGreatDoor
open Go.RowKit

theorem axk22_ok : cutOk axk22 = true := by kernel_rfl
set_option maxRecDepth 1000000 in
theorem axk22_run : chkOut axk22 (run (envP Tryz.prog axk22_h) 100000 axk22.f axk22.args (addAll axk22.pre .nil) axk22.n) = true := by kernel_rfl
theorem axk23_ok : cutOk axk23 = true := by kernel_rfl
set_option maxRecDepth 1000000 in
theorem axk23_run : chkOut axk23 (run (envP Tryz.prog axk23_h) 100000 axk23.f axk23.args (addAll axk23.pre .nil) axk23.n) = true := by kernel_rfl
theorem axk24_ok : cutOk axk24 = true := by kernel_rfl
set_option maxRecDepth 1000000 in
theorem axk24_run : chkOut axk24 (run (envP Tryz.prog axk24_h) 100000 axk24.f axk24.args (addAll axk24.pre .nil) axk24.n) = true := by kernel_rfl
end Go.Proofs.YtnglahcjemgcaaaGreatDoor
