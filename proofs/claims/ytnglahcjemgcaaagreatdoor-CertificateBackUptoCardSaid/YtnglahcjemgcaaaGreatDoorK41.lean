/- What closed calls of this program answer (text 26). No condition. Printed by mkaw.py. -/
import Derived.Test.YtnglahcjemgcaaaGreatDoorK15
namespace Go.Proofs.YtnglahcjemgcaaaGreatDoor
open Go.RowKit

theorem axk235_ok : cutOk axk235 = true := by kernel_rfl
set_option maxRecDepth 1000000 in
theorem axk235_run : chkOut axk235 (run (envP Tryz.prog axk235_h) 100000 axk235.f axk235.args (addAll axk235.pre .nil) axk235.n) = true := by kernel_rfl
end Go.Proofs.YtnglahcjemgcaaaGreatDoor
