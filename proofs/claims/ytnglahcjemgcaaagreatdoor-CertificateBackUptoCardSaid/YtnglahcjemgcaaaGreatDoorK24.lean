/- What closed calls of this program answer (text 9). No condition. Printed by mkaw.py. -/
import Derived.Test.YtnglahcjemgcaaaGreatDoorK15
namespace Go.Proofs.YtnglahcjemgcaaaGreatDoor
open Go.RowKit

theorem axk33_ok : cutOk axk33 = true := by kernel_rfl
set_option maxRecDepth 1000000 in
theorem axk33_run : chkOut axk33 (run (envP Tryz.prog axk33_h) 100000 axk33.f axk33.args (addAll axk33.pre .nil) axk33.n) = true := by kernel_rfl
theorem axk34_ok : cutOk axk34 = true := by kernel_rfl
set_option maxRecDepth 1000000 in
theorem axk34_run : chkOut axk34 (run (envP Tryz.prog axk34_h) 100000 axk34.f axk34.args (addAll axk34.pre .nil) axk34.n) = true := by kernel_rfl
theorem axk35_ok : cutOk axk35 = true := by kernel_rfl
set_option maxRecDepth 1000000 in
theorem axk35_run : chkOut axk35 (run (envP Tryz.prog axk35_h) 100000 axk35.f axk35.args (addAll axk35.pre .nil) axk35.n) = true := by kernel_rfl
theorem axk36_ok : cutOk axk36 = true := by kernel_rfl
set_option maxRecDepth 1000000 in
theorem axk36_run : chkOut axk36 (run (envP Tryz.prog axk36_h) 100000 axk36.f axk36.args (addAll axk36.pre .nil) axk36.n) = true := by kernel_rfl
theorem axk37_ok : cutOk axk37 = true := by kernel_rfl
set_option maxRecDepth 1000000 in
theorem axk37_run : chkOut axk37 (run (envP Tryz.prog axk37_h) 100000 axk37.f axk37.args (addAll axk37.pre .nil) axk37.n) = true := by kernel_rfl
theorem axk38_ok : cutOk axk38 = true := by kernel_rfl
set_option maxRecDepth 1000000 in
theorem axk38_run : chkOut axk38 (run (envP Tryz.prog axk38_h) 100000 axk38.f axk38.args (addAll axk38.pre .nil) axk38.n) = true := by kernel_rfl
theorem axk39_ok : cutOk axk39 = true := by kernel_rfl
set_option maxRecDepth 1000000 in
theorem axk39_run : chkOut axk39 (run (envP Tryz.prog axk39_h) 100000 axk39.f axk39.args (addAll axk39.pre .nil) axk39.n) = true := by kernel_rfl
theorem axk40_ok : cutOk axk40 = true := by kernel_rfl
set_option maxRecDepth 1000000 in
theorem axk40_run : chkOut axk40 (run (envP Tryz.prog axk40_h) 100000 axk40.f axk40.args (addAll axk40.pre .nil) axk40.n) = true := by kernel_rfl
end Go.Proofs.YtnglahcjemgcaaaGreatDoor
