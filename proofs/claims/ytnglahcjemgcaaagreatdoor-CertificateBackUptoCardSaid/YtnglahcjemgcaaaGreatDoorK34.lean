/- What closed calls of this program answer (text 19). No condition. Printed by mkaw.py. -/
import Derived.Test.YtnglahcjemgcaaaGreatDoorK15
namespace Go.Proofs.YtnglahcjemgcaaaGreatDoor
open Go.RowKit

theorem axk105_ok : cutOk axk105 = true := by kernel_rfl
set_option maxRecDepth 1000000 in
theorem axk105_run : chkOut axk105 (run (envP Tryz.prog axk105_h) 100000 axk105.f axk105.args (addAll axk105.pre .nil) axk105.n) = true := by kernel_rfl
end Go.Proofs.YtnglahcjemgcaaaGreatDoor
