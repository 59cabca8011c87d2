/- What closed calls of this program answer (text 24). No condition. Printed by mkaw.py. -/
import Derived.Test.YtnglahcjemgcaaaGreatDoorK15
namespace Go.Proofs.YtnglahcjemgcaaaGreatDoor
open Go.RowKit

theorem axk226_ok : cutOk axk226 = true := by kernel_rfl
set_option maxRecDepth 1000000 in
theorem axk226_run : chkOut axk226 (run (envP Tryz.prog axk226_h) 100000 axk226.f axk226.args (addAll axk226.pre .nil) axk226.n) = true := by kernel_rfl
end Go.Proofs.YtnglahcjemgcaaaGreatDoor
