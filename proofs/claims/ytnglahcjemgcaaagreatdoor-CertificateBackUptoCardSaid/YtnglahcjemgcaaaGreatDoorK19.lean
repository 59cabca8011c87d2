/- What closed calls of this program answer (text 4). No condition. Printed by mkaw.py. -/
import Derived.Test.YtnglahcjemgcaaaGreatDoorK15
namespace Go.Proofs.YtnglahcjemgcaaaGreatDoor
open Go.RowKit

theorem axk14_ok : cutOk axk14 = true := by kernel_rfl
set_option maxRecDepth 1000000 in
theorem axk14_run : chkOut axk14 (run (envP Tryz.prog axk14_h) 100000 axk14.f axk14.args (addAll axk14.pre .nil) axk14.n) = true := by kernel_rfl
theorem axk15_ok : cutOk axk15 = true := by kernel_rfl
set_option maxRecDepth 1000000 in
theorem axk15_run : chkOut axk15 (run (envP Tryz.prog axk15_h) 100000 axk15.f axk15.args (addAll axk15.pre .nil) axk15.n) = true := by kernel_rfl
theorem axk16_ok : cutOk axk16 = true := by kernel_rfl
set_option maxRecDepth 1000000 in
theorem axk16_run : chkOut axk16 (run (envP Tryz.prog axk16_h) 100000 axk16.f axk16.args (addAll axk16.pre .nil) axk16.n) = true := by kernel_rfl
theorem axk17_ok : cutOk axk17 = true := by kernel_rfl
set_option maxRecDepth 1000000 in
theorem axk17_run : chkOut axk17 (run (envP Tryz.prog axk17_h) 100000 axk17.f axk17.args (addAll axk17.pre .nil) axk17.n) = true := by kernel_rfl
theorem axk18_ok : cutOk axk18 = true := by kernel_rfl
set_option maxRecDepth 1000000 in
theorem axk18_run : chkOut axk18 (run (envP Tryz.prog axk18_h) 100000 axk18.f axk18.args (addAll axk18.pre .nil) axk18.n) = true := by kernel_rfl
theorem axk19_ok : cutOk axk19 = true := by kernel_rfl
set_option maxRecDepth 1000000 in
theorem axk19_run : chkOut axk19 (run (envP Tryz.prog axk19_h) 100000 axk19.f axk19.args (addAll axk19.pre .nil) axk19.n) = true := by kernel_rfl
theorem axk20_ok : cutOk axk20 = true := by kernel_rfl
set_option maxRecDepth 1000000 in
theorem axk20_run : chkOut axk20 (run (envP Tryz.prog axk20_h) 100000 axk20.f axk20.args (addAll axk20.pre .nil) axk20.n) = true := by kernel_rfl
theorem axk21_ok : cutOk axk21 = true := by kernel_rfl
set_option maxRecDepth 1000000 in
theorem axk21_run : chkOut axk21 (run (envP Tryz.prog axk21_h) 100000 axk21.f axk21.args (addAll axk21.pre .nil) axk21.n) = true := by kernel_rfl
end Go.Proofs.YtnglahcjemgcaaaGreatDoor
