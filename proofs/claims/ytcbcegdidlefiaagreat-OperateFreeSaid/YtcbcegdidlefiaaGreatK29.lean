/- What closed calls of this program answer (text 5). No condition. Printed by mkaw.py. -/
import Derived.Test.YtcbcegdidlefiaaGreatK24
namespace Go.Proofs.YtcbcegdidlefiaaGreat
open Go.RowKit

theorem awk125_ok : cutOk awk125 = true := by kernel_rfl
set_option maxRecDepth 1000000 in
theorem awk125_run : chkOut awk125 (run (envP Tryz.prog awk125_h) 100000 awk125.f awk125.args (addAll awk125.pre .nil) awk125.n) = true := by kernel_rfl
theorem awk126_ok : cutOk awk126 = true := by kernel_rfl
set_option maxRecDepth 1000000 in
theorem awk126_run : chkOut awk126 (run (envP Tryz.prog awk126_h) 100000 awk126.f awk126.args (addAll awk126.pre .nil) awk126.n) = true := by kernel_rfl
theorem awk127_ok : cutOk awk127 = true := by kernel_rfl
set_option maxRecDepth 1000000 in
theorem awk127_run : chkOut awk127 (run (envP Tryz.prog awk127_h) 100000 awk127.f awk127.args (addAll awk127.pre .nil) awk127.n) = true := by kernel_rfl
theorem awk128_ok : cutOk awk128 = true := by kernel_rfl
set_option maxRecDepth 1000000 in
theorem awk128_run : chkOut awk128 (run (envP Tryz.prog awk128_h) 100000 awk128.f awk128.args (addAll awk128.pre .nil) awk128.n) = true := by kernel_rfl
theorem awk129_ok : cutOk awk129 = true := by kernel_rfl
set_option maxRecDepth 1000000 in
theorem awk129_run : chkOut awk129 (run (envP Tryz.prog awk129_h) 100000 awk129.f awk129.args (addAll awk129.pre .nil) awk129.n) = true := by kernel_rfl
theorem awk130_ok : cutOk awk130 = true := by kernel_rfl
set_option maxRecDepth 1000000 in
theorem awk130_run : chkOut awk130 (run (envP Tryz.prog awk130_h) 100000 awk130.f awk130.args (addAll awk130.pre .nil) awk130.n) = true := by kernel_rfl
theorem awk131_ok : cutOk awk131 = true := by kernel_rfl
set_option maxRecDepth 1000000 in
theorem awk131_run : chkOut awk131 (run (envP Tryz.prog awk131_h) 100000 awk131.f awk131.args (addAll awk131.pre .nil) awk131.n) = true := by kernel_rfl
theorem awk132_ok : cutOk awk132 = true := by kernel_rfl
set_option maxRecDepth 1000000 in
theorem awk132_run : chkOut awk132 (run (envP Tryz.prog awk132_h) 100000 awk132.f awk132.args (addAll awk132.pre .nil) awk132.n) = true := by kernel_rfl
theorem awk133_ok : cutOk awk133 = true := by kernel_rfl
set_option maxRecDepth 1000000 in
theorem awk133_run : chkOut awk133 (run (envP Tryz.prog awk133_h) 100000 awk133.f awk133.args (addAll awk133.pre .nil) awk133.n) = true := by kernel_rfl
theorem awk134_ok : cutOk awk134 = true := by kernel_rfl
set_option maxRecDepth 1000000 in
theorem awk134_run : chkOut awk134 (run (envP Tryz.prog awk134_h) 100000 awk134.f awk134.args (addAll awk134.pre .nil) awk134.n) = true := by kernel_rfl
theorem awk135_ok : cutOk awk135 = true := by kernel_rfl
set_option maxRecDepth 1000000 in
theorem awk135_run : chkOut awk135 (run (envP Tryz.prog awk135_h) 100000 awk135.f awk135.args (addAll awk135.pre .nil) awk135.n) = true := by kernel_rfl
end Go.Proofs.YtcbcegdidlefiaaGreat
