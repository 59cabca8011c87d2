/- What closed calls of this program answer (text 12). No condition. Printed by mkaw.py. -/
import Derived.Test.YtcbcegdidlefiaaGreatK24
namespace Go.Proofs.YtcbcegdidlefiaaGreat
open Go.RowKit

theorem awk255_ok : cutOk awk255 = true := by kernel_rfl
set_option maxRecDepth 1000000 in
theorem awk255_run : chkOut awk255 (run (envP Tryz.prog awk255_h) 100000 awk255.f awk255.args (addAll awk255.pre .nil) awk255.n) = true := by kernel_rfl
theorem awk256_ok : cutOk awk256 = true := by kernel_rfl
set_option maxRecDepth 1000000 in
theorem awk256_run : chkOut awk256 (run (envP Tryz.prog awk256_h) 100000 awk256.f awk256.args (addAll awk256.pre .nil) awk256.n) = true := by kernel_rfl
theorem awk257_ok : cutOk awk257 = true := by kernel_rfl
set_option maxRecDepth 1000000 in
theorem awk257_run : chkOut awk257 (run (envP Tryz.prog awk257_h) 100000 awk257.f awk257.args (addAll awk257.pre .nil) awk257.n) = true := by kernel_rfl
theorem awk258_ok : cutOk awk258 = true := by kernel_rfl
set_option maxRecDepth 1000000 in
theorem awk258_run : chkOut awk258 (run (envP Tryz.prog awk258_h) 100000 awk258.f awk258.args (addAll awk258.pre .nil) awk258.n) = true := by kernel_rfl
theorem awk259_ok : cutOk awk259 = true := by kernel_rfl
set_option maxRecDepth 1000000 in
theorem awk259_run : chkOut awk259 (run (envP Tryz.prog awk259_h) 100000 awk259.f awk259.args (addAll awk259.pre .nil) awk259.n) = true := by kernel_rfl
theorem awk260_ok : cutOk awk260 = true := by kernel_rfl
set_option maxRecDepth 1000000 in
theorem awk260_run : chkOut awk260 (run (envP Tryz.prog awk260_h) 100000 awk260.f awk260.args (addAll awk260.pre .nil) awk260.n) = true := by kernel_rfl
theorem awk261_ok : cutOk awk261 = true := by kernel_rfl
set_option maxRecDepth 1000000 in
theorem awk261_run : chkOut awk261 (run (envP Tryz.prog awk261_h) 100000 awk261.f awk261.args (addAll awk261.pre .nil) awk261.n) = true := by kernel_rfl
theorem awk262_ok : cutOk awk262 = true := by kernel_rfl
set_option maxRecDepth 1000000 in
theorem awk262_run : chkOut awk262 (run (envP Tryz.prog awk262_h) 100000 awk262.f awk262.args (addAll awk262.pre .nil) awk262.n) = true := by kernel_rfl
theorem awk263_ok : cutOk awk263 = true := by kernel_rfl
set_option maxRecDepth 1000000 in
theorem awk263_run : chkOut awk263 (run (envP Tryz.prog awk263_h) 100000 awk263.f awk263.args (addAll awk263.pre .nil) awk263.n) = true := by kernel_rfl
theorem awk264_ok : cutOk awk264 = true := by kernel_rfl
set_option maxRecDepth 1000000 in
theorem awk264_run : chkOut awk264 (run (envP Tryz.prog awk264_h) 100000 awk264.f awk264.args (addAll awk264.pre .nil) awk264.n) = true := by kernel_rfl
theorem awk265_ok : cutOk awk265 = true := by kernel_rfl
set_option maxRecDepth 1000000 in
theorem awk265_run : chkOut awk265 (run (envP Tryz.prog awk265_h) 100000 awk265.f awk265.args (addAll awk265.pre .nil) awk265.n) = true := by kernel_rfl
theorem awk266_ok : cutOk awk266 = true := by kernel_rfl
set_option maxRecDepth 1000000 in
theorem awk266_run : chkOut awk266 (run (envP Tryz.prog awk266_h) 100000 awk266.f awk266.args (addAll awk266.pre .nil) awk266.n) = true := by kernel_rfl
theorem awk267_ok : cutOk awk267 = true := by kernel_rfl
set_option maxRecDepth 1000000 in
theorem awk267_run : chkOut awk267 (run (envP Tryz.prog awk267_h) 100000 awk267.f awk267.args (addAll awk267.pre .nil) awk267.n) = true := by kernel_rfl
theorem awk268_ok : cutOk awk268 = true := by kernel_rfl
set_option maxRecDepth 1000000 in
theorem awk268_run : chkOut awk268 (run (envP Tryz.prog awk268_h) 100000 awk268.f awk268.args (addAll awk268.pre .nil) awk268.n) = true := by kernel_rfl
end Go.Proofs.YtcbcegdidlefiaaGreat
