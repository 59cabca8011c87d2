/- What closed calls of this program answer (text 2). No condition. Printed by mkaw.py. -/
import Derived.Test.YtcbcegdidlefiaaGreatK24
namespace Go.Proofs.YtcbcegdidlefiaaGreat
open Go.RowKit

theorem awk14_ok : cutOk awk14 = true := by kernel_rfl
set_option maxRecDepth 1000000 in
theorem awk14_run : chkOut awk14 (run (envP Tryz.prog awk14_h) 100000 awk14.f awk14.args (addAll awk14.pre .nil) awk14.n) = true := by kernel_rfl
theorem awk15_ok : cutOk awk15 = true := by kernel_rfl
set_option maxRecDepth 1000000 in
theorem awk15_run : chkOut awk15 (run (envP Tryz.prog awk15_h) 100000 awk15.f awk15.args (addAll awk15.pre .nil) awk15.n) = true := by kernel_rfl
theorem awk16_ok : cutOk awk16 = true := by kernel_rfl
set_option maxRecDepth 1000000 in
theorem awk16_run : chkOut awk16 (run (envP Tryz.prog awk16_h) 100000 awk16.f awk16.args (addAll awk16.pre .nil) awk16.n) = true := by kernel_rfl
theorem awk17_ok : cutOk awk17 = true := by kernel_rfl
set_option maxRecDepth 1000000 in
theorem awk17_run : chkOut awk17 (run (envP Tryz.prog awk17_h) 100000 awk17.f awk17.args (addAll awk17.pre .nil) awk17.n) = true := by kernel_rfl
theorem awk18_ok : cutOk awk18 = true := by kernel_rfl
set_option maxRecDepth 1000000 in
theorem awk18_run : chkOut awk18 (run (envP Tryz.prog awk18_h) 100000 awk18.f awk18.args (addAll awk18.pre .nil) awk18.n) = true := by kernel_rfl
theorem awk19_ok : cutOk awk19 = true := by kernel_rfl
set_option maxRecDepth 1000000 in
theorem awk19_run : chkOut awk19 (run (envP Tryz.prog awk19_h) 100000 awk19.f awk19.args (addAll awk19.pre .nil) awk19.n) = true := by kernel_rfl
theorem awk20_ok : cutOk awk20 = true := by kernel_rfl
set_option maxRecDepth 1000000 in
theorem awk20_run : chkOut awk20 (run (envP Tryz.prog awk20_h) 100000 awk20.f awk20.args (addAll awk20.pre .nil) awk20.n) = true := by kernel_rfl
theorem awk21_ok : cutOk awk21 = true := by kernel_rfl
set_option maxRecDepth 1000000 in
theorem awk21_run : chkOut awk21 (run (envP Tryz.prog awk21_h) 100000 awk21.f awk21.args (addAll awk21.pre .nil) awk21.n) = true := by kernel_rfl
theorem awk22_ok : cutOk awk22 = true := by kernel_rfl
set_option maxRecDepth 1000000 in
theorem awk22_run : chkOut awk22 (run (envP Tryz.prog awk22_h) 100000 awk22.f awk22.args (addAll awk22.pre .nil) awk22.n) = true := by kernel_rfl
theorem awk23_ok : cutOk awk23 = true := by kernel_rfl
set_option maxRecDepth 1000000 in
theorem awk23_run : chkOut awk23 (run (envP Tryz.prog awk23_h) 100000 awk23.f awk23.args (addAll awk23.pre .nil) awk23.n) = true := by kernel_rfl
theorem awk24_ok : cutOk awk24 = true := by kernel_rfl
set_option maxRecDepth 1000000 in
theorem awk24_run : chkOut awk24 (run (envP Tryz.prog awk24_h) 100000 awk24.f awk24.args (addAll awk24.pre .nil) awk24.n) = true := by kernel_rfl
theorem awk25_ok : cutOk awk25 = true := by kernel_rfl
set_option maxRecDepth 1000000 in
theorem awk25_run : chkOut awk25 (run (envP Tryz.prog awk25_h) 100000 awk25.f awk25.args (addAll awk25.pre .nil) awk25.n) = true := by kernel_rfl
theorem awk26_ok : cutOk awk26 = true := by kernel_rfl
set_option maxRecDepth 1000000 in
theorem awk26_run : chkOut awk26 (run (envP Tryz.prog awk26_h) 100000 awk26.f awk26.args (addAll awk26.pre .nil) awk26.n) = true := by kernel_rfl
theorem awk27_ok : cutOk awk27 = true := by kernel_rfl
set_option maxRecDepth 1000000 in
theorem awk27_run : chkOut awk27 (run (envP Tryz.prog awk27_h) 100000 awk27.f awk27.args (addAll awk27.pre .nil) awk27.n) = true := by kernel_rfl
theorem awk28_ok : cutOk awk28 = true := by kernel_rfl
set_option maxRecDepth 1000000 in
theorem awk28_run : chkOut awk28 (run (envP Tryz.prog awk28_h) 100000 awk28.f awk28.args (addAll awk28.pre .nil) awk28.n) = true := by kernel_rfl
theorem awk29_ok : cutOk awk29 = true := by kernel_rfl
set_option maxRecDepth 1000000 in
theorem awk29_run : chkOut awk29 (run (envP Tryz.prog awk29_h) 100000 awk29.f awk29.args (addAll awk29.pre .nil) awk29.n) = true := by kernel_rfl
theorem awk30_ok : cutOk awk30 = true := by kernel_rfl
set_option maxRecDepth 1000000 in
theorem awk30_run : chkOut awk30 (run (envP Tryz.prog awk30_h) 100000 awk30.f awk30.args (addAll awk30.pre .nil) awk30.n) = true := by kernel_rfl
theorem awk31_ok : cutOk awk31 = true := by kernel_rfl
set_option maxRecDepth 1000000 in
theorem awk31_run : chkOut awk31 (run (envP Tryz.prog awk31_h) 100000 awk31.f awk31.args (addAll awk31.pre .nil) awk31.n) = true := by kernel_rfl
theorem awk32_ok : cutOk awk32 = true := by kernel_rfl
set_option maxRecDepth 1000000 in
theorem awk32_run : chkOut awk32 (run (envP Tryz.prog awk32_h) 100000 awk32.f awk32.args (addAll awk32.pre .nil) awk32.n) = true := by kernel_rfl
theorem awk33_ok : cutOk awk33 = true := by kernel_rfl
set_option maxRecDepth 1000000 in
theorem awk33_run : chkOut awk33 (run (envP Tryz.prog awk33_h) 100000 awk33.f awk33.args (addAll awk33.pre .nil) awk33.n) = true := by kernel_rfl
theorem awk34_ok : cutOk awk34 = true := by kernel_rfl
set_option maxRecDepth 1000000 in
theorem awk34_run : chkOut awk34 (run (envP Tryz.prog awk34_h) 100000 awk34.f awk34.args (addAll awk34.pre .nil) awk34.n) = true := by kernel_rfl
theorem awk35_ok : cutOk awk35 = true := by kernel_rfl
set_option maxRecDepth 1000000 in
theorem awk35_run : chkOut awk35 (run (envP Tryz.prog awk35_h) 100000 awk35.f awk35.args (addAll awk35.pre .nil) awk35.n) = true := by kernel_rfl
theorem awk36_ok : cutOk awk36 = true := by kernel_rfl
set_option maxRecDepth 1000000 in
theorem awk36_run : chkOut awk36 (run (envP Tryz.prog awk36_h) 100000 awk36.f awk36.args (addAll awk36.pre .nil) awk36.n) = true := by kernel_rfl
theorem awk37_ok : cutOk awk37 = true := by kernel_rfl
set_option maxRecDepth 1000000 in
theorem awk37_run : chkOut awk37 (run (envP Tryz.prog awk37_h) 100000 awk37.f awk37.args (addAll awk37.pre .nil) awk37.n) = true := by kernel_rfl
theorem awk38_ok : cutOk awk38 = true := by kernel_rfl
set_option maxRecDepth 1000000 in
theorem awk38_run : chkOut awk38 (run (envP Tryz.prog awk38_h) 100000 awk38.f awk38.args (addAll awk38.pre .nil) awk38.n) = true := by kernel_rfl
theorem awk39_ok : cutOk awk39 = true := by kernel_rfl
set_option maxRecDepth 1000000 in
theorem awk39_run : chkOut awk39 (run (envP Tryz.prog awk39_h) 100000 awk39.f awk39.args (addAll awk39.pre .nil) awk39.n) = true := by kernel_rfl
theorem awk40_ok : cutOk awk40 = true := by kernel_rfl
set_option maxRecDepth 1000000 in
theorem awk40_run : chkOut awk40 (run (envP Tryz.prog awk40_h) 100000 awk40.f awk40.args (addAll awk40.pre .nil) awk40.n) = true := by kernel_rfl
theorem awk41_ok : cutOk awk41 = true := by kernel_rfl
set_option maxRecDepth 1000000 in
theorem awk41_run : chkOut awk41 (run (envP Tryz.prog awk41_h) 100000 awk41.f awk41.args (addAll awk41.pre .nil) awk41.n) = true := by kernel_rfl
theorem awk42_ok : cutOk awk42 = true := by kernel_rfl
set_option maxRecDepth 1000000 in
theorem awk42_run : chkOut awk42 (run (envP Tryz.prog awk42_h) 100000 awk42.f awk42.args (addAll awk42.pre .nil) awk42.n) = true := by kernel_rfl
theorem awk43_ok : cutOk awk43 = true := by kernel_rfl
set_option maxRecDepth 1000000 in
theorem awk43_run : chkOut awk43 (run (envP Tryz.prog awk43_h) 100000 awk43.f awk43.args (addAll awk43.pre .nil) awk43.n) = true := by kernel_rfl
theorem awk44_ok : cutOk awk44 = true := by kernel_rfl
set_option maxRecDepth 1000000 in
theorem awk44_run : chkOut awk44 (run (envP Tryz.prog awk44_h) 100000 awk44.f awk44.args (addAll awk44.pre .nil) awk44.n) = true := by kernel_rfl
end Go.Proofs.YtcbcegdidlefiaaGreat
