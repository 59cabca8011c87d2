/- What closed calls of this program answer (text 14). No condition. Printed by mkaw.py. -/
import Derived.Test.YtnglahcjemgcaaaGreatDoorK15
namespace Go.Proofs.YtnglahcjemgcaaaGreatDoor
open Go.RowKit

theorem axk50_ok : cutOk axk50 = true := by kernel_rfl
set_option maxRecDepth 1000000 in
theorem axk50_run : chkOut axk50 (run (envP Tryz.prog axk50_h) 100000 axk50.f axk50.args (addAll axk50.pre .nil) axk50.n) = true := by kernel_rfl
theorem axk51_ok : cutOk axk51 = true := by kernel_rfl
set_option maxRecDepth 1000000 in
theorem axk51_run : chkOut axk51 (run (envP Tryz.prog axk51_h) 100000 axk51.f axk51.args (addAll axk51.pre .nil) axk51.n) = true := by kernel_rfl
theorem axk52_ok : cutOk axk52 = true := by kernel_rfl
set_option maxRecDepth 1000000 in
theorem axk52_run : chkOut axk52 (run (envP Tryz.prog axk52_h) 100000 axk52.f axk52.args (addAll axk52.pre .nil) axk52.n) = true := by kernel_rfl
theorem axk53_ok : cutOk axk53 = true := by kernel_rfl
set_option maxRecDepth 1000000 in
theorem axk53_run : chkOut axk53 (run (envP Tryz.prog axk53_h) 100000 axk53.f axk53.args (addAll axk53.pre .nil) axk53.n) = true := by kernel_rfl
end Go.Proofs.YtnglahcjemgcaaaGreatDoor
