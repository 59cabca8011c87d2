/- What closed calls of this program answer (text 7). No condition. Printed by mkaw.py. -/
import Derived.Test.YtnglahcjemgcaaaGreatDoorK15
namespace Go.Proofs.YtnglahcjemgcaaaGreatDoor
open Go.RowKit

theorem axk26_ok : cutOk axk26 = true := by kernel_rfl
set_option maxRecDepth 1000000 in
theorem axk26_run : chkOut axk26 (run (envP Tryz.prog axk26_h) 100000 axk26.f axk26.args (addAll axk26.pre .nil) axk26.n) = true := by kernel_rfl
theorem axk27_ok : cutOk axk27 = true := by kernel_rfl
set_option maxRecDepth 1000000 in
theorem axk27_run : chkOut axk27 (run (envP Tryz.prog axk27_h) 100000 axk27.f axk27.args (addAll axk27.pre .nil) axk27.n) = true := by kernel_rfl
theorem axk28_ok : cutOk axk28 = true := by kernel_rfl
set_option maxRecDepth 1000000 in
theorem axk28_run : chkOut axk28 (run (envP Tryz.prog axk28_h) 100000 axk28.f axk28.args (addAll axk28.pre .nil) axk28.n) = true := by kernel_rfl
theorem axk29_ok : cutOk axk29 = true := by kernel_rfl
set_option maxRecDepth 1000000 in
theorem axk29_run : chkOut axk29 (run (envP Tryz.prog axk29_h) 100000 axk29.f axk29.args (addAll axk29.pre .nil) axk29.n) = true := by kernel_rfl
theorem axk30_ok : cutOk axk30 = true := by kernel_rfl
set_option maxRecDepth 1000000 in
theorem axk30_run : chkOut axk30 (run (envP Tryz.prog axk30_h) 100000 axk30.f axk30.args (addAll axk30.pre .nil) axk30.n) = true := by kernel_rfl
theorem axk31_ok : cutOk axk31 = true := by kernel_rfl
set_option maxRecDepth 1000000 in
theorem axk31_run : chkOut axk31 (run (envP Tryz.prog axk31_h) 100000 axk31.f axk31.args (addAll axk31.pre .nil) axk31.n) = true := by kernel_rfl
end Go.Proofs.YtnglahcjemgcaaaGreatDoor
