/- What closed calls of this program answer (text 25). No condition. Printed by mkaw.py. -/
import Derived.Test.YtnglahcjemgcaaaGreatDoorK15
namespace Go.Proofs.YtnglahcjemgcaaaGreatDoor
open Go.RowKit

theorem axk227_ok : cutOk axk227 = true := by kernel_rfl
set_option maxRecDepth 1000000 in
theorem axk227_run : chkOut axk227 (run (envP Tryz.prog axk227_h) 100000 axk227.f axk227.args (addAll axk227.pre .nil) axk227.n) = true := by kernel_rfl
theorem axk228_ok : cutOk axk228 = true := by kernel_rfl
set_option maxRecDepth 1000000 in
theorem axk228_run : chkOut axk228 (run (envP Tryz.prog axk228_h) 100000 axk228.f axk228.args (addAll axk228.pre .nil) axk228.n) = true := by kernel_rfl
theorem axk229_ok : cutOk axk229 = true := by kernel_rfl
set_option maxRecDepth 1000000 in
theorem axk229_run : chkOut axk229 (run (envP Tryz.prog axk229_h) 100000 axk229.f axk229.args (addAll axk229.pre .nil) axk229.n) = true := by kernel_rfl
theorem axk230_ok : cutOk axk230 = true := by kernel_rfl
set_option maxRecDepth 1000000 in
theorem axk230_run : chkOut axk230 (run (envP Tryz.prog axk230_h) 100000 axk230.f axk230.args (addAll axk230.pre .nil) axk230.n) = true := by kernel_rfl
theorem axk231_ok : cutOk axk231 = true := by kernel_rfl
set_option maxRecDepth 1000000 in
theorem axk231_run : chkOut axk231 (run (envP Tryz.prog axk231_h) 100000 axk231.f axk231.args (addAll axk231.pre .nil) axk231.n) = true := by kernel_rfl
theorem axk232_ok : cutOk axk232 = true := by kernel_rfl
set_option maxRecDepth 1000000 in
theorem axk232_run : chkOut axk232 (run (envP Tryz.prog axk232_h) 100000 axk232.f axk232.args (addAll axk232.pre .nil) axk232.n) = true := by kernel_rfl
theorem axk233_ok : cutOk axk233 = true := by kernel_rfl
set_option maxRecDepth 1000000 in
theorem axk233_run : chkOut axk233 (run (envP Tryz.prog axk233_h) 100000 axk233.f axk233.args (addAll axk233.pre .nil) axk233.n) = true := by kernel_rfl
theorem axk234_ok : cutOk axk234 = true := by kernel_rfl
set_option maxRecDepth 1000000 in
theorem axk234_run : chkOut axk234 (run (envP Tryz.prog axk234_h) 100000 axk234.f axk234.args (addAll axk234.pre .nil) axk234.n) = true := by kernel_rfl
end Go.Proofs.YtnglahcjemgcaaaGreatDoor
