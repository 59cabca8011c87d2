/- What closed calls of this program answer (text 11). No condition. Printed by mkaw.py. -/
import Derived.Test.YtnglahcjemgcaaaGreatDoorK15
namespace Go.Proofs.YtnglahcjemgcaaaGreatDoor
open Go.RowKit

theorem axk42_ok : cutOk axk42 = true := by kernel_rfl
set_option maxRecDepth 1000000 in
theorem axk42_run : chkOut axk42 (run (envP Tryz.prog axk42_h) 100000 axk42.f axk42.args (addAll axk42.pre .nil) axk42.n) = true := by kernel_rfl
theorem axk43_ok : cutOk axk43 = true := by kernel_rfl
set_option maxRecDepth 1000000 in
theorem axk43_run : chkOut axk43 (run (envP Tryz.prog axk43_h) 100000 axk43.f axk43.args (addAll axk43.pre .nil) axk43.n) = true := by kernel_rfl
theorem axk44_ok : cutOk axk44 = true := by kernel_rfl
set_option maxRecDepth 1000000 in
theorem axk44_run : chkOut axk44 (run (envP Tryz.prog axk44_h) 100000 axk44.f axk44.args (addAll axk44.pre .nil) axk44.n) = true := by kernel_rfl
end Go.Proofs.YtnglahcjemgcaaaGreatDoor
