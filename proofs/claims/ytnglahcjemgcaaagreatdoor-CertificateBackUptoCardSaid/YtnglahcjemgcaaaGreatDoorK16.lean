/- What closed calls of this program answer (text 1). No condition. Printed by mkaw.py. -/
import Derived.Test.YtnglahcjemgcaaaGreatDoorK15
namespace Go.Proofs.YtnglahcjemgcaaaGreatDoor
open Go.RowKit

theorem axk0_ok : cutOk axk0 = true := by kernel_rfl
set_option maxRecDepth 1000000 in
theorem axk0_run : chkOut axk0 (run (envP Tryz.prog axk0_h) 100000 axk0.f axk0.args (addAll axk0.pre .nil) axk0.n) = true := by kernel_rfl
theorem axk1_ok : cutOk axk1 = true := by kernel_rfl
set_option maxRecDepth 1000000 in
theorem axk1_run : chkOut axk1 (run (envP Tryz.prog axk1_h) 100000 axk1.f axk1.args (addAll axk1.pre .nil) axk1.n) = true := by kernel_rfl
theorem axk2_ok : cutOk axk2 = true := by kernel_rfl
set_option maxRecDepth 1000000 in
theorem axk2_run : chkOut axk2 (run (envP Tryz.prog axk2_h) 100000 axk2.f axk2.args (addAll axk2.pre .nil) axk2.n) = true := by kernel_rfl
theorem axk3_ok : cutOk axk3 = true := by kernel_rfl
set_option maxRecDepth 1000000 in
theorem axk3_run : chkOut axk3 (run (envP Tryz.prog axk3_h) 100000 axk3.f axk3.args (addAll axk3.pre .nil) axk3.n) = true := by kernel_rfl
theorem axk4_ok : cutOk axk4 = true := by kernel_rfl
set_option maxRecDepth 1000000 in
theorem axk4_run : chkOut axk4 (run (envP Tryz.prog axk4_h) 100000 axk4.f axk4.args (addAll axk4.pre .nil) axk4.n) = true := by kernel_rfl
theorem axk5_ok : cutOk axk5 = true := by kernel_rfl
set_option maxRecDepth 1000000 in
theorem axk5_run : chkOut axk5 (run (envP Tryz.prog axk5_h) 100000 axk5.f axk5.args (addAll axk5.pre .nil) axk5.n) = true := by kernel_rfl
theorem axk6_ok : cutOk axk6 = true := by kernel_rfl
set_option maxRecDepth 1000000 in
theorem axk6_run : chkOut axk6 (run (envP Tryz.prog axk6_h) 100000 axk6.f axk6.args (addAll axk6.pre .nil) axk6.n) = true := by kernel_rfl
theorem axk7_ok : cutOk axk7 = true := by kernel_rfl
set_option maxRecDepth 1000000 in
theorem axk7_run : chkOut axk7 (run (envP Tryz.prog axk7_h) 100000 axk7.f axk7.args (addAll axk7.pre .nil) axk7.n) = true := by kernel_rfl
end Go.Proofs.YtnglahcjemgcaaaGreatDoor
