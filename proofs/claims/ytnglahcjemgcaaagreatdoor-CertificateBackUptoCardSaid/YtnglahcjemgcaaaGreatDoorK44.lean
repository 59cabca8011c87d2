/- What closed calls of this program answer (text 29). No condition. Printed by mkaw.py. -/
import Derived.Test.YtnglahcjemgcaaaGreatDoorK15
namespace Go.Proofs.YtnglahcjemgcaaaGreatDoor
open Go.RowKit

theorem axk255_ok : cutOk axk255 = true := by kernel_rfl
set_option maxRecDepth 1000000 in
theorem axk255_run : chkOut axk255 (run (envP Tryz.prog axk255_h) 100000 axk255.f axk255.args (addAll axk255.pre .nil) axk255.n) = true := by kernel_rfl
theorem axk256_ok : cutOk axk256 = true := by kernel_rfl
set_option maxRecDepth 1000000 in
theorem axk256_run : chkOut axk256 (run (envP Tryz.prog axk256_h) 100000 axk256.f axk256.args (addAll axk256.pre .nil) axk256.n) = true := by kernel_rfl
theorem axk257_ok : cutOk axk257 = true := by kernel_rfl
set_option maxRecDepth 1000000 in
theorem axk257_run : chkOut axk257 (run (envP Tryz.prog axk257_h) 100000 axk257.f axk257.args (addAll axk257.pre .nil) axk257.n) = true := by kernel_rfl
theorem axk258_ok : cutOk axk258 = true := by kernel_rfl
set_option maxRecDepth 1000000 in
theorem axk258_run : chkOut axk258 (run (envP Tryz.prog axk258_h) 100000 axk258.f axk258.args (addAll axk258.pre .nil) axk258.n) = true := by kernel_rfl
theorem axk259_ok : cutOk axk259 = true := by kernel_rfl
set_option maxRecDepth 1000000 in
theorem axk259_run : chkOut axk259 (run (envP Tryz.prog axk259_h) 100000 axk259.f axk259.args (addAll axk259.pre .nil) axk259.n) = true := by kernel_rfl
end Go.Proofs.YtnglahcjemgcaaaGreatDoor
