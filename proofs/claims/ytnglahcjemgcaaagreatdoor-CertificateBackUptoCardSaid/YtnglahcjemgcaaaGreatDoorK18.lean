/- What closed calls of this program answer (text 3). No condition. Printed by mkaw.py. -/
import Derived.Test.YtnglahcjemgcaaaGreatDoorK15
namespace Go.Proofs.YtnglahcjemgcaaaGreatDoor
open Go.RowKit

theorem axk9_ok : cutOk axk9 = true := by kernel_rfl
set_option maxRecDepth 1000000 in
theorem axk9_run : chkOut axk9 (run (envP Tryz.prog axk9_h) 100000 axk9.f axk9.args (addAll axk9.pre .nil) axk9.n) = true := by kernel_rfl
theorem axk10_ok : cutOk axk10 = true := by kernel_rfl
set_option maxRecDepth 1000000 in
theorem axk10_run : chkOut axk10 (run (envP Tryz.prog axk10_h) 100000 axk10.f axk10.args (addAll axk10.pre .nil) axk10.n) = true := by kernel_rfl
theorem axk11_ok : cutOk axk11 = true := by kernel_rfl
set_option maxRecDepth 1000000 in
theorem axk11_run : chkOut axk11 (run (envP Tryz.prog axk11_h) 100000 axk11.f axk11.args (addAll axk11.pre .nil) axk11.n) = true := by kernel_rfl
theorem axk12_ok : cutOk axk12 = true := by kernel_rfl
set_option maxRecDepth 1000000 in
theorem axk12_run : chkOut axk12 (run (envP Tryz.prog axk12_h) 100000 axk12.f axk12.args (addAll axk12.pre .nil) axk12.n) = true := by kernel_rfl
theorem axk13_ok : cutOk axk13 = true := by kernel_rfl
set_option maxRecDepth 1000000 in
theorem axk13_run : chkOut axk13 (run (envP Tryz.prog axk13_h) 100000 axk13.f axk13.args (addAll axk13.pre .nil) axk13.n) = true := by kernel_rfl
end Go.Proofs.YtnglahcjemgcaaaGreatDoor
