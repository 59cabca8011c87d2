/- What closed calls of this program answer (text 13). No condition. Printed by mkaw.py. -/
import Derived.Test.YtcbcegdidlefiaaGreatK24
namespace Go.Proofs.YtcbcegdidlefiaaGreat
open Go.RowKit

theorem awk269_ok : cutOk awk269 = true := by kernel_rfl
set_option maxRecDepth 1000000 in
theorem awk269_run : chkOut awk269 (run (envP Tryz.prog awk269_h) 100000 awk269.f awk269.args (addAll awk269.pre .nil) awk269.n) = true := by kernel_rfl
theorem awk270_ok : cutOk awk270 = true := by kernel_rfl
set_option maxRecDepth 1000000 in
theorem awk270_run : chkOut awk270 (run (envP Tryz.prog awk270_h) 100000 awk270.f awk270.args (addAll awk270.pre .nil) awk270.n) = true := by kernel_rfl
end Go.Proofs.YtcbcegdidlefiaaGreat
