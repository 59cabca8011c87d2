/- What closed calls of this program answer (text 18). No condition. Printed by mkaw.py. -/
import Derived.Test.YtnglahcjemgcaaaGreatDoorK15
namespace Go.Proofs.YtnglahcjemgcaaaGreatDoor
open Go.RowKit

theorem axk104_ok : cutOk axk104 = true := by kernel_rfl
set_option maxRecDepth 1000000 in
theorem axk104_run : chkOut axk104 (run (envP Tryz.prog axk104_h) 100000 axk104.f axk104.args (addAll axk104.pre .nil) axk104.n) = true := by kernel_rfl
end Go.Proofs.YtnglahcjemgcaaaGreatDoor
