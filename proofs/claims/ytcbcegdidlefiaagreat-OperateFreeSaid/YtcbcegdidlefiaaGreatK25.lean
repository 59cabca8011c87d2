/- What closed calls of this program answer (text 1). No condition. Printed by mkaw.py. -/
import Derived.Test.YtcbcegdidlefiaaGreatK24
namespace Go.Proofs.YtcbcegdidlefiaaGreat
open Go.RowKit

theorem awk0_ok : cutOk awk0 = true := by kernel_rfl
set_option maxRecDepth 1000000 in
theorem awk0_run : chkOut awk0 (run (envP Tryz.prog awk0_h) 100000 awk0.f awk0.args (addAll awk0.pre .nil) awk0.n) = true := by kernel_rfl
theorem awk1_ok : cutOk awk1 = true := by kernel_rfl
set_option maxRecDepth 1000000 in
theorem awk1_run : chkOut awk1 (run (envP Tryz.prog awk1_h) 100000 awk1.f awk1.args (addAll awk1.pre .nil) awk1.n) = true := by kernel_rfl
theorem awk2_ok : cutOk awk2 = true := by kernel_rfl
set_option maxRecDepth 1000000 in
theorem awk2_run : chkOut awk2 (run (envP Tryz.prog awk2_h) 100000 awk2.f awk2.args (addAll awk2.pre .nil) awk2.n) = true := by kernel_rfl
theorem awk3_ok : cutOk awk3 = true := by kernel_rfl
set_option maxRecDepth 1000000 in
theorem awk3_run : chkOut awk3 (run (envP Tryz.prog awk3_h) 100000 awk3.f awk3.args (addAll awk3.pre .nil) awk3.n) = true := by kernel_rfl
theorem awk4_ok : cutOk awk4 = true := by kernel_rfl
set_option maxRecDepth 1000000 in
theorem awk4_run : chkOut awk4 (run (envP Tryz.prog awk4_h) 100000 awk4.f awk4.args (addAll awk4.pre .nil) awk4.n) = true := by kernel_rfl
theorem awk5_ok : cutOk awk5 = true := by kernel_rfl
set_option maxRecDepth 1000000 in
theorem awk5_run : chkOut awk5 (run (envP Tryz.prog awk5_h) 100000 awk5.f awk5.args (addAll awk5.pre .nil) awk5.n) = true := by kernel_rfl
theorem awk6_ok : cutOk awk6 = true := by kernel_rfl
set_option maxRecDepth 1000000 in
theorem awk6_run : chkOut awk6 (run (envP Tryz.prog awk6_h) 100000 awk6.f awk6.args (addAll awk6.pre .nil) awk6.n) = true := by kernel_rfl
theorem awk7_ok : cutOk awk7 = true := by kernel_rfl
set_option maxRecDepth 1000000 in
theorem awk7_run : chkOut awk7 (run (envP Tryz.prog awk7_h) 100000 awk7.f awk7.args (addAll awk7.pre .nil) awk7.n) = true := by kernel_rfl
theorem awk8_ok : cutOk awk8 = true := by kernel_rfl
set_option maxRecDepth 1000000 in
theorem awk8_run : chkOut awk8 (run (envP Tryz.prog awk8_h) 100000 awk8.f awk8.args (addAll awk8.pre .nil) awk8.n) = true := by kernel_rfl
theorem awk9_ok : cutOk awk9 = true := by kernel_rfl
set_option maxRecDepth 1000000 in
theorem awk9_run : chkOut awk9 (run (envP Tryz.prog awk9_h) 100000 awk9.f awk9.args (addAll awk9.pre .nil) awk9.n) = true := by kernel_rfl
theorem awk10_ok : cutOk awk10 = true := by kernel_rfl
set_option maxRecDepth 1000000 in
theorem awk10_run : chkOut awk10 (run (envP Tryz.prog awk10_h) 100000 awk10.f awk10.args (addAll awk10.pre .nil) awk10.n) = true := by kernel_rfl
theorem awk11_ok : cutOk awk11 = true := by kernel_rfl
set_option maxRecDepth 1000000 in
theorem awk11_run : chkOut awk11 (run (envP Tryz.prog awk11_h) 100000 awk11.f awk11.args (addAll awk11.pre .nil) awk11.n) = true := by kernel_rfl
theorem awk12_ok : cutOk awk12 = true := by kernel_rfl
set_option maxRecDepth 1000000 in
theorem awk12_run : chkOut awk12 (run (envP Tryz.prog awk12_h) 100000 awk12.f awk12.args (addAll awk12.pre .nil) awk12.n) = true := by kernel_rfl
theorem awk13_ok : cutOk awk13 = true := by kernel_rfl
set_option maxRecDepth 1000000 in
theorem awk13_run : chkOut awk13 (run (envP Tryz.prog awk13_h) 100000 awk13.f awk13.args (addAll awk13.pre .nil) awk13.n) = true := by kernel_rfl
end Go.Proofs.YtcbcegdidlefiaaGreat
