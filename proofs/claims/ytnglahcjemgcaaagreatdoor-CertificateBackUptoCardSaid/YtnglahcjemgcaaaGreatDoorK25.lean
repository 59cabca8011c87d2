/- What closed calls of this program answer (text 10). No condition. Printed by mkaw.py. -/
import Derived.Test.YtnglahcjemgcaaaGreatDoorK15
namespace Go.Proofs.YtnglahcjemgcaaaGreatDoor
open Go.RowKit

theorem axk41_ok : cutOk axk41 = true := by kernel_rfl
set_option maxRecDepth 1000000 in
theorem axk41_run : chkOut axk41 (run (envP Tryz.prog axk41_h) 100000 axk41.f axk41.args (addAll axk41.pre .nil) axk41.n) = true := by kernel_rfl
end Go.Proofs.YtnglahcjemgcaaaGreatDoor
