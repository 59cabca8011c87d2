/- What closed calls of this program answer (text 7). No condition. Printed by mkaw.py. -/
import Derived.Test.YtcbcegdidlefiaaGreatK24
namespace Go.Proofs.YtcbcegdidlefiaaGreat
open Go.RowKit

theorem awk139_ok : cutOk awk139 = true := by kernel_rfl
set_option maxRecDepth 1000000 in
theorem awk139_run : chkOut awk139 (run (envP Tryz.prog awk139_h) 100000 awk139.f awk139.args (addAll awk139.pre .nil) awk139.n) = true := by kernel_rfl
theorem awk140_ok : cutOk awk140 = true := by kernel_rfl
set_option maxRecDepth 1000000 in
theorem awk140_run : chkOut awk140 (run (envP Tryz.prog awk140_h) 100000 awk140.f awk140.args (addAll awk140.pre .nil) awk140.n) = true := by kernel_rfl
theorem awk141_ok : cutOk awk141 = true := by kernel_rfl
set_option maxRecDepth 1000000 in
theorem awk141_run : chkOut awk141 (run (envP Tryz.prog awk141_h) 100000 awk141.f awk141.args (addAll awk141.pre .nil) awk141.n) = true := by kernel_rfl
theorem awk142_ok : cutOk awk142 = true := by kernel_rfl
set_option maxRecDepth 1000000 in
theorem awk142_run : chkOut awk142 (run (envP Tryz.prog awk142_h) 100000 awk142.f awk142.args (addAll awk142.pre .nil) awk142.n) = true := by kernel_rfl
theorem awk143_ok : cutOk awk143 = true := by kernel_rfl
set_option maxRecDepth 1000000 in
theorem awk143_run : chkOut awk143 (run (envP Tryz.prog awk143_h) 100000 awk143.f awk143.args (addAll awk143.pre .nil) awk143.n) = true := by kernel_rfl
theorem awk144_ok : cutOk awk144 = true := by kernel_rfl
set_option maxRecDepth 1000000 in
theorem awk144_run : chkOut awk144 (run (envP Tryz.prog awk144_h) 100000 awk144.f awk144.args (addAll awk144.pre .nil) awk144.n) = true := by kernel_rfl
theorem awk145_ok : cutOk awk145 = true := by kernel_rfl
set_option maxRecDepth 1000000 in
theorem awk145_run : chkOut awk145 (run (envP Tryz.prog awk145_h) 100000 awk145.f awk145.args (addAll awk145.pre .nil) awk145.n) = true := by kernel_rfl
theorem awk146_ok : cutOk awk146 = true := by kernel_rfl
set_option maxRecDepth 1000000 in
theorem awk146_run : chkOut awk146 (run (envP Tryz.prog awk146_h) 100000 awk146.f awk146.args (addAll awk146.pre .nil) awk146.n) = true := by kernel_rfl
theorem awk147_ok : cutOk awk147 = true := by kernel_rfl
set_option maxRecDepth 1000000 in
theorem awk147_run : chkOut awk147 (run (envP Tryz.prog awk147_h) 100000 awk147.f awk147.args (addAll awk147.pre .nil) awk147.n) = true := by kernel_rfl
theorem awk148_ok : cutOk awk148 = true := by kernel_rfl
set_option maxRecDepth 1000000 in
theorem awk148_run : chkOut awk148 (run (envP Tryz.prog awk148_h) 100000 awk148.f awk148.args (addAll awk148.pre .nil) awk148.n) = true := by kernel_rfl
theorem awk149_ok : cutOk awk149 = true := by kernel_rfl
set_option maxRecDepth 1000000 in
theorem awk149_run : chkOut awk149 (run (envP Tryz.prog awk149_h) 100000 awk149.f awk149.args (addAll awk149.pre .nil) awk149.n) = true := by kernel_rfl
theorem awk150_ok : cutOk awk150 = true := by kernel_rfl
set_option maxRecDepth 1000000 in
theorem awk150_run : chkOut awk150 (run (envP Tryz.prog awk150_h) 100000 awk150.f awk150.args (addAll awk150.pre .nil) awk150.n) = true := by kernel_rfl
theorem awk151_ok : cutOk awk151 = true := by kernel_rfl
set_option maxRecDepth 1000000 in
theorem awk151_run : chkOut awk151 (run (envP Tryz.prog awk151_h) 100000 awk151.f awk151.args (addAll awk151.pre .nil) awk151.n) = true := by kernel_rfl
theorem awk152_ok : cutOk awk152 = true := by kernel_rfl
set_option maxRecDepth 1000000 in
theorem awk152_run : chkOut awk152 (run (envP Tryz.prog awk152_h) 100000 awk152.f awk152.args (addAll awk152.pre .nil) awk152.n) = true := by kernel_rfl
theorem awk153_ok : cutOk awk153 = true := by kernel_rfl
set_option maxRecDepth 1000000 in
theorem awk153_run : chkOut awk153 (run (envP Tryz.prog awk153_h) 100000 awk153.f awk153.args (addAll awk153.pre .nil) awk153.n) = true := by kernel_rfl
theorem awk154_ok : cutOk awk154 = true := by kernel_rfl
set_option maxRecDepth 1000000 in
theorem awk154_run : chkOut awk154 (run (envP Tryz.prog awk154_h) 100000 awk154.f awk154.args (addAll awk154.pre .nil) awk154.n) = true := by kernel_rfl
theorem awk155_ok : cutOk awk155 = true := by kernel_rfl
set_option maxRecDepth 1000000 in
theorem awk155_run : chkOut awk155 (run (envP Tryz.prog awk155_h) 100000 awk155.f awk155.args (addAll awk155.pre .nil) awk155.n) = true := by kernel_rfl
theorem awk156_ok : cutOk awk156 = true := by kernel_rfl
set_option maxRecDepth 1000000 in
theorem awk156_run : chkOut awk156 (run (envP Tryz.prog awk156_h) 100000 awk156.f awk156.args (addAll awk156.pre .nil) awk156.n) = true := by kernel_rfl
theorem awk157_ok : cutOk awk157 = true := by kernel_rfl
set_option maxRecDepth 1000000 in
theorem awk157_run : chkOut awk157 (run (envP Tryz.prog awk157_h) 100000 awk157.f awk157.args (addAll awk157.pre .nil) awk157.n) = true := by kernel_rfl
end Go.Proofs.YtcbcegdidlefiaaGreat
