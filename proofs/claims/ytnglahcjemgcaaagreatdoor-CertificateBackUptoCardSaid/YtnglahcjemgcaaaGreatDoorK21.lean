/- What closed calls of this program answer (text 6). No condition. Printed by mkaw.py. -/
import Derived.Test.YtnglahcjemgcaaaGreatDoorK15
namespace Go.Proofs.YtnglahcjemgcaaaGreatDoor
open Go.RowKit

theorem axk25_ok : cutOk axk25 = true := by kernel_rfl
set_option maxRecDepth 1000000 in
theorem axk25_run : chkOut axk25 (run (envP Tryz.prog axk25_h) 100000 axk25.f axk25.args (addAll axk25.pre .nil) axk25.n) = true := by kernel_rfl
end Go.Proofs.YtnglahcjemgcaaaGreatDoor
