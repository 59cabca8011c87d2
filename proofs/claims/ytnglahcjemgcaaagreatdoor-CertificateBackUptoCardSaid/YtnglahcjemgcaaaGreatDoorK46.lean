/- What closed calls of this program answer (text 31). No condition. Printed by mkaw.py. -/
import Derived.Test.YtnglahcjemgcaaaGreatDoorK15
namespace Go.Proofs.YtnglahcjemgcaaaGreatDoor
open Go.RowKit

theorem axk261_ok : cutOk axk261 = true := by kernel_rfl
set_option maxRecDepth 1000000 in
theorem axk261_run : chkOut axk261 (run (envP Tryz.prog axk261_h) 100000 axk261.f axk261.args (addAll axk261.pre .nil) axk261.n) = true := by kernel_rfl
theorem axk262_ok : cutOk axk262 = true := by kernel_rfl
set_option maxRecDepth 1000000 in
theorem axk262_run : chkOut axk262 (run (envP Tryz.prog axk262_h) 100000 axk262.f axk262.args (addAll axk262.pre .nil) axk262.n) = true := by kernel_rfl
theorem axk263_ok : cutOk axk263 = true := by kernel_rfl
set_option maxRecDepth 1000000 in
theorem axk263_run : chkOut axk263 (run (envP Tryz.prog axk263_h) 100000 axk263.f axk263.args (addAll axk263.pre .nil) axk263.n) = true := by kernel_rfl
theorem axk264_ok : cutOk axk264 = true := by kernel_rfl
set_option maxRecDepth 1000000 in
theorem axk264_run : chkOut axk264 (run (envP Tryz.prog axk264_h) 100000 axk264.f axk264.args (addAll axk264.pre .nil) axk264.n) = true := by kernel_rfl
end Go.Proofs.YtnglahcjemgcaaaGreatDoor
