/- What closed calls of this program answer (text 28). No condition. Printed by mkaw.py. -/
import Derived.Test.YtnglahcjemgcaaaGreatDoorK15
namespace Go.Proofs.YtnglahcjemgcaaaGreatDoor
open Go.RowKit

theorem axk242_ok : cutOk axk242 = true := by kernel_rfl
set_option maxRecDepth 1000000 in
theorem axk242_run : chkOut axk242 (run (envP Tryz.prog axk242_h) 100000 axk242.f axk242.args (addAll axk242.pre .nil) axk242.n) = true := by kernel_rfl
theorem axk243_ok : cutOk axk243 = true := by kernel_rfl
set_option maxRecDepth 1000000 in
theorem axk243_run : chkOut axk243 (run (envP Tryz.prog axk243_h) 100000 axk243.f axk243.args (addAll axk243.pre .nil) axk243.n) = true := by kernel_rfl
theorem axk244_ok : cutOk axk244 = true := by kernel_rfl
set_option maxRecDepth 1000000 in
theorem axk244_run : chkOut axk244 (run (envP Tryz.prog axk244_h) 100000 axk244.f axk244.args (addAll axk244.pre .nil) axk244.n) = true := by kernel_rfl
theorem axk245_ok : cutOk axk245 = true := by kernel_rfl
set_option maxRecDepth 1000000 in
theorem axk245_run : chkOut axk245 (run (envP Tryz.prog axk245_h) 100000 axk245.f axk245.args (addAll axk245.pre .nil) axk245.n) = true := by kernel_rfl
theorem axk246_ok : cutOk axk246 = true := by kernel_rfl
set_option maxRecDepth 1000000 in
theorem axk246_run : chkOut axk246 (run (envP Tryz.prog axk246_h) 100000 axk246.f axk246.args (addAll axk246.pre .nil) axk246.n) = true := by kernel_rfl
theorem axk247_ok : cutOk axk247 = true := by kernel_rfl
set_option maxRecDepth 1000000 in
theorem axk247_run : chkOut axk247 (run (envP Tryz.prog axk247_h) 100000 axk247.f axk247.args (addAll axk247.pre .nil) axk247.n) = true := by kernel_rfl
theorem axk248_ok : cutOk axk248 = true := by kernel_rfl
set_option maxRecDepth 1000000 in
theorem axk248_run : chkOut axk248 (run (envP Tryz.prog axk248_h) 100000 axk248.f axk248.args (addAll axk248.pre .nil) axk248.n) = true := by kernel_rfl
theorem axk249_ok : cutOk axk249 = true := by kernel_rfl
set_option maxRecDepth 1000000 in
theorem axk249_run : chkOut axk249 (run (envP Tryz.prog axk249_h) 100000 axk249.f axk249.args (addAll axk249.pre .nil) axk249.n) = true := by kernel_rfl
theorem axk250_ok : cutOk axk250 = true := by kernel_rfl
set_option maxRecDepth 1000000 in
theorem axk250_run : chkOut axk250 (run (envP Tryz.prog axk250_h) 100000 axk250.f axk250.args (addAll axk250.pre .nil) axk250.n) = true := by kernel_rfl
theorem axk251_ok : cutOk axk251 = true := by kernel_rfl
set_option maxRecDepth 1000000 in
theorem axk251_run : chkOut axk251 (run (envP Tryz.prog axk251_h) 100000 axk251.f axk251.args (addAll axk251.pre .nil) axk251.n) = true := by kernel_rfl
theorem axk252_ok : cutOk axk252 = true := by kernel_rfl
set_option maxRecDepth 1000000 in
theorem axk252_run : chkOut axk252 (run (envP Tryz.prog axk252_h) 100000 axk252.f axk252.args (addAll axk252.pre .nil) axk252.n) = true := by kernel_rfl
theorem axk253_ok : cutOk axk253 = true := by kernel_rfl
set_option maxRecDepth 1000000 in
theorem axk253_run : chkOut axk253 (run (envP Tryz.prog axk253_h) 100000 axk253.f axk253.args (addAll axk253.pre .nil) axk253.n) = true := by kernel_rfl
theorem axk254_ok : cutOk axk254 = true := by kernel_rfl
set_option maxRecDepth 1000000 in
theorem axk254_run : chkOut axk254 (run (envP Tryz.prog axk254_h) 100000 axk254.f axk254.args (addAll axk254.pre .nil) axk254.n) = true := by kernel_rfl
end Go.Proofs.YtnglahcjemgcaaaGreatDoor
