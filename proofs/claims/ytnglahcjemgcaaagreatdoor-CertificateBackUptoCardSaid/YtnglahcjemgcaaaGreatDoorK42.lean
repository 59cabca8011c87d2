/- What closed calls of this program answer (text 27). No condition. Printed by mkaw.py. -/
import Derived.Test.YtnglahcjemgcaaaGreatDoorK15
namespace Go.Proofs.YtnglahcjemgcaaaGreatDoor
open Go.RowKit

theorem axk236_ok : cutOk axk236 = true := by kernel_rfl
set_option maxRecDepth 1000000 in
theorem axk236_run : chkOut axk236 (run (envP Tryz.prog axk236_h) 100000 axk236.f axk236.args (addAll axk236.pre .nil) axk236.n) = true := by kernel_rfl
theorem axk237_ok : cutOk axk237 = true := by kernel_rfl
set_option maxRecDepth 1000000 in
theorem axk237_run : chkOut axk237 (run (envP Tryz.prog axk237_h) 100000 axk237.f axk237.args (addAll axk237.pre .nil) axk237.n) = true := by kernel_rfl
theorem axk238_ok : cutOk axk238 = true := by kernel_rfl
set_option maxRecDepth 1000000 in
theorem axk238_run : chkOut axk238 (run (envP Tryz.prog axk238_h) 100000 axk238.f axk238.args (addAll axk238.pre .nil) axk238.n) = true := by kernel_rfl
theorem axk239_ok : cutOk axk239 = true := by kernel_rfl
set_option maxRecDepth 1000000 in
theorem axk239_run : chkOut axk239 (run (envP Tryz.prog axk239_h) 100000 axk239.f axk239.args (addAll axk239.pre .nil) axk239.n) = true := by kernel_rfl
theorem axk240_ok : cutOk axk240 = true := by kernel_rfl
set_option maxRecDepth 1000000 in
theorem axk240_run : chkOut axk240 (run (envP Tryz.prog axk240_h) 100000 axk240.f axk240.args (addAll axk240.pre .nil) axk240.n) = true := by kernel_rfl
theorem axk241_ok : cutOk axk241 = true := by kernel_rfl
set_option maxRecDepth 1000000 in
theorem axk241_run : chkOut axk241 (run (envP Tryz.prog axk241_h) 100000 axk241.f axk241.args (addAll axk241.pre .nil) axk241.n) = true := by kernel_rfl
end Go.Proofs.YtnglahcjemgcaaaGreatDoor
