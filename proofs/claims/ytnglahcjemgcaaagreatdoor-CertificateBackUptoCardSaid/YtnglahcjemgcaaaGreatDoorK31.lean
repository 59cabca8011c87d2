/- What closed calls of this program answer (text 16). No condition. Printed by mkaw.py. -/
import Derived.Test.YtnglahcjemgcaaaGreatDoorK15
namespace Go.Proofs.YtnglahcjemgcaaaGreatDoor
open Go.RowKit

theorem axk55_ok : cutOk axk55 = true := by kernel_rfl
set_option maxRecDepth 1000000 in
theorem axk55_run : chkOut axk55 (run (envP Tryz.prog axk55_h) 100000 axk55.f axk55.args (addAll axk55.pre .nil) axk55.n) = true := by kernel_rfl
theorem axk56_ok : cutOk axk56 = true := by kernel_rfl
set_option maxRecDepth 1000000 in
theorem axk56_run : chkOut axk56 (run (envP Tryz.prog axk56_h) 100000 axk56.f axk56.args (addAll axk56.pre .nil) axk56.n) = true := by kernel_rfl
theorem axk57_ok : cutOk axk57 = true := by kernel_rfl
set_option maxRecDepth 1000000 in
theorem axk57_run : chkOut axk57 (run (envP Tryz.prog axk57_h) 100000 axk57.f axk57.args (addAll axk57.pre .nil) axk57.n) = true := by kernel_rfl
theorem axk58_ok : cutOk axk58 = true := by kernel_rfl
set_option maxRecDepth 1000000 in
theorem axk58_run : chkOut axk58 (run (envP Tryz.prog axk58_h) 100000 axk58.f axk58.args (addAll axk58.pre .nil) axk58.n) = true := by kernel_rfl
theorem axk59_ok : cutOk axk59 = true := by kernel_rfl
set_option maxRecDepth 1000000 in
theorem axk59_run : chkOut axk59 (run (envP Tryz.prog axk59_h) 100000 axk59.f axk59.args (addAll axk59.pre .nil) axk59.n) = true := by kernel_rfl
theorem axk60_ok : cutOk axk60 = true := by kernel_rfl
set_option maxRecDepth 1000000 in
theorem axk60_run : chkOut axk60 (run (envP Tryz.prog axk60_h) 100000 axk60.f axk60.args (addAll axk60.pre .nil) axk60.n) = true := by kernel_rfl
theorem axk61_ok : cutOk axk61 = true := by kernel_rfl
set_option maxRecDepth 1000000 in
theorem axk61_run : chkOut axk61 (run (envP Tryz.prog axk61_h) 100000 axk61.f axk61.args (addAll axk61.pre .nil) axk61.n) = true := by kernel_rfl
theorem axk62_ok : cutOk axk62 = true := by kernel_rfl
set_option maxRecDepth 1000000 in
theorem axk62_run : chkOut axk62 (run (envP Tryz.prog axk62_h) 100000 axk62.f axk62.args (addAll axk62.pre .nil) axk62.n) = true := by kernel_rfl
theorem axk63_ok : cutOk axk63 = true := by kernel_rfl
set_option maxRecDepth 1000000 in
theorem axk63_run : chkOut axk63 (run (envP Tryz.prog axk63_h) 100000 axk63.f axk63.args (addAll axk63.pre .nil) axk63.n) = true := by kernel_rfl
theorem axk64_ok : cutOk axk64 = true := by kernel_rfl
set_option maxRecDepth 1000000 in
theorem axk64_run : chkOut axk64 (run (envP Tryz.prog axk64_h) 100000 axk64.f axk64.args (addAll axk64.pre .nil) axk64.n) = true := by kernel_rfl
theorem axk65_ok : cutOk axk65 = true := by kernel_rfl
set_option maxRecDepth 1000000 in
theorem axk65_run : chkOut axk65 (run (envP Tryz.prog axk65_h) 100000 axk65.f axk65.args (addAll axk65.pre .nil) axk65.n) = true := by kernel_rfl
theorem axk66_ok : cutOk axk66 = true := by kernel_rfl
set_option maxRecDepth 1000000 in
theorem axk66_run : chkOut axk66 (run (envP Tryz.prog axk66_h) 100000 axk66.f axk66.args (addAll axk66.pre .nil) axk66.n) = true := by kernel_rfl
theorem axk67_ok : cutOk axk67 = true := by kernel_rfl
set_option maxRecDepth 1000000 in
theorem axk67_run : chkOut axk67 (run (envP Tryz.prog axk67_h) 100000 axk67.f axk67.args (addAll axk67.pre .nil) axk67.n) = true := by kernel_rfl
theorem axk68_ok : cutOk axk68 = true := by kernel_rfl
set_option maxRecDepth 1000000 in
theorem axk68_run : chkOut axk68 (run (envP Tryz.prog axk68_h) 100000 axk68.f axk68.args (addAll axk68.pre .nil) axk68.n) = true := by kernel_rfl
theorem axk69_ok : cutOk axk69 = true := by kernel_rfl
set_option maxRecDepth 1000000 in
theorem axk69_run : chkOut axk69 (run (envP Tryz.prog axk69_h) 100000 axk69.f axk69.args (addAll axk69.pre .nil) axk69.n) = true := by kernel_rfl
theorem axk70_ok : cutOk axk70 = true := by kernel_rfl
set_option maxRecDepth 1000000 in
theorem axk70_run : chkOut axk70 (run (envP Tryz.prog axk70_h) 100000 axk70.f axk70.args (addAll axk70.pre .nil) axk70.n) = true := by kernel_rfl
theorem axk71_ok : cutOk axk71 = true := by kernel_rfl
set_option maxRecDepth 1000000 in
theorem axk71_run : chkOut axk71 (run (envP Tryz.prog axk71_h) 100000 axk71.f axk71.args (addAll axk71.pre .nil) axk71.n) = true := by kernel_rfl
theorem axk72_ok : cutOk axk72 = true := by kernel_rfl
set_option maxRecDepth 1000000 in
theorem axk72_run : chkOut axk72 (run (envP Tryz.prog axk72_h) 100000 axk72.f axk72.args (addAll axk72.pre .nil) axk72.n) = true := by kernel_rfl
theorem axk73_ok : cutOk axk73 = true := by kernel_rfl
set_option maxRecDepth 1000000 in
theorem axk73_run : chkOut axk73 (run (envP Tryz.prog axk73_h) 100000 axk73.f axk73.args (addAll axk73.pre .nil) axk73.n) = true := by kernel_rfl
theorem axk74_ok : cutOk axk74 = true := by kernel_rfl
set_option maxRecDepth 1000000 in
theorem axk74_run : chkOut axk74 (run (envP Tryz.prog axk74_h) 100000 axk74.f axk74.args (addAll axk74.pre .nil) axk74.n) = true := by kernel_rfl
theorem axk75_ok : cutOk axk75 = true := by kernel_rfl
set_option maxRecDepth 1000000 in
theorem axk75_run : chkOut axk75 (run (envP Tryz.prog axk75_h) 100000 axk75.f axk75.args (addAll axk75.pre .nil) axk75.n) = true := by kernel_rfl
theorem axk76_ok : cutOk axk76 = true := by kernel_rfl
set_option maxRecDepth 1000000 in
theorem axk76_run : chkOut axk76 (run (envP Tryz.prog axk76_h) 100000 axk76.f axk76.args (addAll axk76.pre .nil) axk76.n) = true := by kernel_rfl
theorem axk77_ok : cutOk axk77 = true := by kernel_rfl
set_option maxRecDepth 1000000 in
theorem axk77_run : chkOut axk77 (run (envP Tryz.prog axk77_h) 100000 axk77.f axk77.args (addAll axk77.pre .nil) axk77.n) = true := by kernel_rfl
theorem axk78_ok : cutOk axk78 = true := by kernel_rfl
set_option maxRecDepth 1000000 in
theorem axk78_run : chkOut axk78 (run (envP Tryz.prog axk78_h) 100000 axk78.f axk78.args (addAll axk78.pre .nil) axk78.n) = true := by kernel_rfl
theorem axk79_ok : cutOk axk79 = true := by kernel_rfl
set_option maxRecDepth 1000000 in
theorem axk79_run : chkOut axk79 (run (envP Tryz.prog axk79_h) 100000 axk79.f axk79.args (addAll axk79.pre .nil) axk79.n) = true := by kernel_rfl
end Go.Proofs.YtnglahcjemgcaaaGreatDoor
