/- What closed calls of this program answer (text 11). No condition. Printed by mkaw.py. -/
import Derived.Test.YtcbcegdidlefiaaGreatK24
namespace Go.Proofs.YtcbcegdidlefiaaGreat
open Go.RowKit

theorem awk240_ok : cutOk awk240 = true := by kernel_rfl
set_option maxRecDepth 1000000 in
theorem awk240_run : chkOut awk240 (run (envP Tryz.prog awk240_h) 100000 awk240.f awk240.args (addAll awk240.pre .nil) awk240.n) = true := by kernel_rfl
theorem awk241_ok : cutOk awk241 = true := by kernel_rfl
set_option maxRecDepth 1000000 in
theorem awk241_run : chkOut awk241 (run (envP Tryz.prog awk241_h) 100000 awk241.f awk241.args (addAll awk241.pre .nil) awk241.n) = true := by kernel_rfl
theorem awk242_ok : cutOk awk242 = true := by kernel_rfl
set_option maxRecDepth 1000000 in
theorem awk242_run : chkOut awk242 (run (envP Tryz.prog awk242_h) 100000 awk242.f awk242.args (addAll awk242.pre .nil) awk242.n) = true := by kernel_rfl
theorem awk243_ok : cutOk awk243 = true := by kernel_rfl
set_option maxRecDepth 1000000 in
theorem awk243_run : chkOut awk243 (run (envP Tryz.prog awk243_h) 100000 awk243.f awk243.args (addAll awk243.pre .nil) awk243.n) = true := by kernel_rfl
theorem awk244_ok : cutOk awk244 = true := by kernel_rfl
set_option maxRecDepth 1000000 in
theorem awk244_run : chkOut awk244 (run (envP Tryz.prog awk244_h) 100000 awk244.f awk244.args (addAll awk244.pre .nil) awk244.n) = true := by kernel_rfl
theorem awk245_ok : cutOk awk245 = true := by kernel_rfl
set_option maxRecDepth 1000000 in
theorem awk245_run : chkOut awk245 (run (envP Tryz.prog awk245_h) 100000 awk245.f awk245.args (addAll awk245.pre .nil) awk245.n) = true := by kernel_rfl
theorem awk246_ok : cutOk awk246 = true := by kernel_rfl
set_option maxRecDepth 1000000 in
theorem awk246_run : chkOut awk246 (run (envP Tryz.prog awk246_h) 100000 awk246.f awk246.args (addAll awk246.pre .nil) awk246.n) = true := by kernel_rfl
theorem awk247_ok : cutOk awk247 = true := by kernel_rfl
set_option maxRecDepth 1000000 in
theorem awk247_run : chkOut awk247 (run (envP Tryz.prog awk247_h) 100000 awk247.f awk247.args (addAll awk247.pre .nil) awk247.n) = true := by kernel_rfl
theorem awk248_ok : cutOk awk248 = true := by kernel_rfl
set_option maxRecDepth 1000000 in
theorem awk248_run : chkOut awk248 (run (envP Tryz.prog awk248_h) 100000 awk248.f awk248.args (addAll awk248.pre .nil) awk248.n) = true := by kernel_rfl
theorem awk249_ok : cutOk awk249 = true := by kernel_rfl
set_option maxRecDepth 1000000 in
theorem awk249_run : chkOut awk249 (run (envP Tryz.prog awk249_h) 100000 awk249.f awk249.args (addAll awk249.pre .nil) awk249.n) = true := by kernel_rfl
theorem awk250_ok : cutOk awk250 = true := by kernel_rfl
set_option maxRecDepth 1000000 in
theorem awk250_run : chkOut awk250 (run (envP Tryz.prog awk250_h) 100000 awk250.f awk250.args (addAll awk250.pre .nil) awk250.n) = true := by kernel_rfl
theorem awk251_ok : cutOk awk251 = true := by kernel_rfl
set_option maxRecDepth 1000000 in
theorem awk251_run : chkOut awk251 (run (envP Tryz.prog awk251_h) 100000 awk251.f awk251.args (addAll awk251.pre .nil) awk251.n) = true := by kernel_rfl
theorem awk252_ok : cutOk awk252 = true := by kernel_rfl
set_option maxRecDepth 1000000 in
theorem awk252_run : chkOut awk252 (run (envP Tryz.prog awk252_h) 100000 awk252.f awk252.args (addAll awk252.pre .nil) awk252.n) = true := by kernel_rfl
theorem awk253_ok : cutOk awk253 = true := by kernel_rfl
set_option maxRecDepth 1000000 in
theorem awk253_run : chkOut awk253 (run (envP Tryz.prog awk253_h) 100000 awk253.f awk253.args (addAll awk253.pre .nil) awk253.n) = true := by kernel_rfl
theorem awk254_ok : cutOk awk254 = true := by kernel_rfl
set_option maxRecDepth 1000000 in
theorem awk254_run : chkOut awk254 (run (envP Tryz.prog awk254_h) 100000 awk254.f awk254.args (addAll awk254.pre .nil) awk254.n) = true := by kernel_rfl
end Go.Proofs.YtcbcegdidlefiaaGreat
