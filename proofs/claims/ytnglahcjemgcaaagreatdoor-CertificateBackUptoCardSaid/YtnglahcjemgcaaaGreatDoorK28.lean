/- What closed calls of this program answer (text 13). No condition. Printed by mkaw.py. -/
import Derived.Test.YtnglahcjemgcaaaGreatDoorK15
namespace Go.Proofs.YtnglahcjemgcaaaGreatDoor
open Go.RowKit

theorem axk47_ok : cutOk axk47 = true := by kernel_rfl
set_option maxRecDepth 1000000 in
theorem axk47_run : chkOut axk47 (run (envP Tryz.prog axk47_h) 100000 axk47.f axk47.args (addAll axk47.pre .nil) axk47.n) = true := by kernel_rfl
theorem axk48_ok : cutOk axk48 = true := by kernel_rfl
set_option maxRecDepth 1000000 in
theorem axk48_run : chkOut axk48 (run (envP Tryz.prog axk48_h) 100000 axk48.f axk48.args (addAll axk48.pre .nil) axk48.n) = true := by kernel_rfl
theorem axk49_ok : cutOk axk49 = true := by kernel_rfl
set_option maxRecDepth 1000000 in
theorem axk49_run : chkOut axk49 (run (envP Tryz.prog axk49_h) 100000 axk49.f axk49.args (addAll axk49.pre .nil) axk49.n) = true := by kernel_rfl
end Go.Proofs.YtnglahcjemgcaaaGreatDoor
