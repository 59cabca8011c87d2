/- What closed calls of this program answer (text 6). No condition. Printed by mkaw.py. -/
import Derived.Test.YtcbcegdidlefiaaGreatK24
namespace Go.Proofs.YtcbcegdidlefiaaGreat
open Go.RowKit

theorem awk136_ok : cutOk awk136 = true := by kernel_rfl
set_option maxRecDepth 1000000 in
theorem awk136_run : chkOut awk136 (run (envP Tryz.prog awk136_h) 100000 awk136.f awk136.args (addAll awk136.pre .nil) awk136.n) = true := by kernel_rfl
theorem awk137_ok : cutOk awk137 = true := by kernel_rfl
set_option maxRecDepth 1000000 in
theorem awk137_run : chkOut awk137 (run (envP Tryz.prog awk137_h) 100000 awk137.f awk137.args (addAll awk137.pre .nil) awk137.n) = true := by kernel_rfl
theorem awk138_ok : cutOk awk138 = true := by kernel_rfl
set_option maxRecDepth 1000000 in
theorem awk138_run : chkOut awk138 (run (envP Tryz.prog awk138_h) 100000 awk138.f awk138.args (addAll awk138.pre .nil) awk138.n) = true := by kernel_rfl
end Go.Proofs.YtcbcegdidlefiaaGreat
