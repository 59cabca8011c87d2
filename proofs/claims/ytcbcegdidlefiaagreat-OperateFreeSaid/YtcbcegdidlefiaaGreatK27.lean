/- What closed calls of this program answer (text 3). No condition. Printed by mkaw.py. -/
import Derived.Test.YtcbcegdidlefiaaGreatK24
namespace Go.Proofs.YtcbcegdidlefiaaGreat
open Go.RowKit

theorem awk45_ok : cutOk awk45 = true := by kernel_rfl
set_option maxRecDepth 1000000 in
theorem awk45_run : chkOut awk45 (run (envP Tryz.prog awk45_h) 100000 awk45.f awk45.args (addAll awk45.pre .nil) awk45.n) = true := by kernel_rfl
theorem awk46_ok : cutOk awk46 = true := by kernel_rfl
set_option maxRecDepth 1000000 in
theorem awk46_run : chkOut awk46 (run (envP Tryz.prog awk46_h) 100000 awk46.f awk46.args (addAll awk46.pre .nil) awk46.n) = true := by kernel_rfl
theorem awk47_ok : cutOk awk47 = true := by kernel_rfl
set_option maxRecDepth 1000000 in
theorem awk47_run : chkOut awk47 (run (envP Tryz.prog awk47_h) 100000 awk47.f awk47.args (addAll awk47.pre .nil) awk47.n) = true := by kernel_rfl
theorem awk48_ok : cutOk awk48 = true := by kernel_rfl
set_option maxRecDepth 1000000 in
theorem awk48_run : chkOut awk48 (run (envP Tryz.prog awk48_h) 100000 awk48.f awk48.args (addAll awk48.pre .nil) awk48.n) = true := by kernel_rfl
theorem awk49_ok : cutOk awk49 = true := by kernel_rfl
set_option maxRecDepth 1000000 in
theorem awk49_run : chkOut awk49 (run (envP Tryz.prog awk49_h) 100000 awk49.f awk49.args (addAll awk49.pre .nil) awk49.n) = true := by kernel_rfl
theorem awk50_ok : cutOk awk50 = true := by kernel_rfl
set_option maxRecDepth 1000000 in
theorem awk50_run : chkOut awk50 (run (envP Tryz.prog awk50_h) 100000 awk50.f awk50.args (addAll awk50.pre .nil) awk50.n) = true := by kernel_rfl
theorem awk51_ok : cutOk awk51 = true := by kernel_rfl
set_option maxRecDepth 1000000 in
theorem awk51_run : chkOut awk51 (run (envP Tryz.prog awk51_h) 100000 awk51.f awk51.args (addAll awk51.pre .nil) awk51.n) = true := by kernel_rfl
theorem awk52_ok : cutOk awk52 = true := by kernel_rfl
set_option maxRecDepth 1000000 in
theorem awk52_run : chkOut awk52 (run (envP Tryz.prog awk52_h) 100000 awk52.f awk52.args (addAll awk52.pre .nil) awk52.n) = true := by kernel_rfl
theorem awk53_ok : cutOk awk53 = true := by kernel_rfl
set_option maxRecDepth 1000000 in
theorem awk53_run : chkOut awk53 (run (envP Tryz.prog awk53_h) 100000 awk53.f awk53.args (addAll awk53.pre .nil) awk53.n) = true := by kernel_rfl
theorem awk54_ok : cutOk awk54 = true := by kernel_rfl
set_option maxRecDepth 1000000 in
theorem awk54_run : chkOut awk54 (run (envP Tryz.prog awk54_h) 100000 awk54.f awk54.args (addAll awk54.pre .nil) awk54.n) = true := by kernel_rfl
theorem awk55_ok : cutOk awk55 = true := by kernel_rfl
set_option maxRecDepth 1000000 in
theorem awk55_run : chkOut awk55 (run (envP Tryz.prog awk55_h) 100000 awk55.f awk55.args (addAll awk55.pre .nil) awk55.n) = true := by kernel_rfl
theorem awk56_ok : cutOk awk56 = true := by kernel_rfl
set_option maxRecDepth 1000000 in
theorem awk56_run : chkOut awk56 (run (envP Tryz.prog awk56_h) 100000 awk56.f awk56.args (addAll awk56.pre .nil) awk56.n) = true := by kernel_rfl
theorem awk57_ok : cutOk awk57 = true := by kernel_rfl
set_option maxRecDepth 1000000 in
theorem awk57_run : chkOut awk57 (run (envP Tryz.prog awk57_h) 100000 awk57.f awk57.args (addAll awk57.pre .nil) awk57.n) = true := by kernel_rfl
theorem awk58_ok : cutOk awk58 = true := by kernel_rfl
set_option maxRecDepth 1000000 in
theorem awk58_run : chkOut awk58 (run (envP Tryz.prog awk58_h) 100000 awk58.f awk58.args (addAll awk58.pre .nil) awk58.n) = true := by kernel_rfl
theorem awk59_ok : cutOk awk59 = true := by kernel_rfl
set_option maxRecDepth 1000000 in
theorem awk59_run : chkOut awk59 (run (envP Tryz.prog awk59_h) 100000 awk59.f awk59.args (addAll awk59.pre .nil) awk59.n) = true := by kernel_rfl
theorem awk60_ok : cutOk awk60 = true := by kernel_rfl
set_option maxRecDepth 1000000 in
theorem awk60_run : chkOut awk60 (run (envP Tryz.prog awk60_h) 100000 awk60.f awk60.args (addAll awk60.pre .nil) awk60.n) = true := by kernel_rfl
theorem awk61_ok : cutOk awk61 = true := by kernel_rfl
set_option maxRecDepth 1000000 in
theorem awk61_run : chkOut awk61 (run (envP Tryz.prog awk61_h) 100000 awk61.f awk61.args (addAll awk61.pre .nil) awk61.n) = true := by kernel_rfl
theorem awk62_ok : cutOk awk62 = true := by kernel_rfl
set_option maxRecDepth 1000000 in
theorem awk62_run : chkOut awk62 (run (envP Tryz.prog awk62_h) 100000 awk62.f awk62.args (addAll awk62.pre .nil) awk62.n) = true := by kernel_rfl
theorem awk63_ok : cutOk awk63 = true := by kernel_rfl
set_option maxRecDepth 1000000 in
theorem awk63_run : chkOut awk63 (run (envP Tryz.prog awk63_h) 100000 awk63.f awk63.args (addAll awk63.pre .nil) awk63.n) = true := by kernel_rfl
theorem awk64_ok : cutOk awk64 = true := by kernel_rfl
set_option maxRecDepth 1000000 in
theorem awk64_run : chkOut awk64 (run (envP Tryz.prog awk64_h) 100000 awk64.f awk64.args (addAll awk64.pre .nil) awk64.n) = true := by kernel_rfl
theorem awk65_ok : cutOk awk65 = true := by kernel_rfl
set_option maxRecDepth 1000000 in
theorem awk65_run : chkOut awk65 (run (envP Tryz.prog awk65_h) 100000 awk65.f awk65.args (addAll awk65.pre .nil) awk65.n) = true := by kernel_rfl
theorem awk66_ok : cutOk awk66 = true := by kernel_rfl
set_option maxRecDepth 1000000 in
theorem awk66_run : chkOut awk66 (run (envP Tryz.prog awk66_h) 100000 awk66.f awk66.args (addAll awk66.pre .nil) awk66.n) = true := by kernel_rfl
theorem awk67_ok : cutOk awk67 = true := by kernel_rfl
set_option maxRecDepth 1000000 in
theorem awk67_run : chkOut awk67 (run (envP Tryz.prog awk67_h) 100000 awk67.f awk67.args (addAll awk67.pre .nil) awk67.n) = true := by kernel_rfl
theorem awk68_ok : cutOk awk68 = true := by kernel_rfl
set_option maxRecDepth 1000000 in
theorem awk68_run : chkOut awk68 (run (envP Tryz.prog awk68_h) 100000 awk68.f awk68.args (addAll awk68.pre .nil) awk68.n) = true := by kernel_rfl
theorem awk69_ok : cutOk awk69 = true := by kernel_rfl
set_option maxRecDepth 1000000 in
theorem awk69_run : chkOut awk69 (run (envP Tryz.prog awk69_h) 100000 awk69.f awk69.args (addAll awk69.pre .nil) awk69.n) = true := by kernel_rfl
theorem awk70_ok : cutOk awk70 = true := by kernel_rfl
set_option maxRecDepth 1000000 in
theorem awk70_run : chkOut awk70 (run (envP Tryz.prog awk70_h) 100000 awk70.f awk70.args (addAll awk70.pre .nil) awk70.n) = true := by kernel_rfl
theorem awk71_ok : cutOk awk71 = true := by kernel_rfl
set_option maxRecDepth 1000000 in
theorem awk71_run : chkOut awk71 (run (envP Tryz.prog awk71_h) 100000 awk71.f awk71.args (addAll awk71.pre .nil) awk71.n) = true := by kernel_rfl
theorem awk72_ok : cutOk awk72 = true := by kernel_rfl
set_option maxRecDepth 1000000 in
theorem awk72_run : chkOut awk72 (run (envP Tryz.prog awk72_h) 100000 awk72.f awk72.args (addAll awk72.pre .nil) awk72.n) = true := by kernel_rfl
theorem awk73_ok : cutOk awk73 = true := by kernel_rfl
set_option maxRecDepth 1000000 in
theorem awk73_run : chkOut awk73 (run (envP Tryz.prog awk73_h) 100000 awk73.f awk73.args (addAll awk73.pre .nil) awk73.n) = true := by kernel_rfl
theorem awk74_ok : cutOk awk74 = true := by kernel_rfl
set_option maxRecDepth 1000000 in
theorem awk74_run : chkOut awk74 (run (envP Tryz.prog awk74_h) 100000 awk74.f awk74.args (addAll awk74.pre .nil) awk74.n) = true := by kernel_rfl
theorem awk75_ok : cutOk awk75 = true := by kernel_rfl
set_option maxRecDepth 1000000 in
theorem awk75_run : chkOut awk75 (run (envP Tryz.prog awk75_h) 100000 awk75.f awk75.args (addAll awk75.pre .nil) awk75.n) = true := by kernel_rfl
theorem awk76_ok : cutOk awk76 = true := by kernel_rfl
set_option maxRecDepth 1000000 in
theorem awk76_run : chkOut awk76 (run (envP Tryz.prog awk76_h) 100000 awk76.f awk76.args (addAll awk76.pre .nil) awk76.n) = true := by kernel_rfl
theorem awk77_ok : cutOk awk77 = true := by kernel_rfl
set_option maxRecDepth 1000000 in
theorem awk77_run : chkOut awk77 (run (envP Tryz.prog awk77_h) 100000 awk77.f awk77.args (addAll awk77.pre .nil) awk77.n) = true := by kernel_rfl
theorem awk78_ok : cutOk awk78 = true := by kernel_rfl
set_option maxRecDepth 1000000 in
theorem awk78_run : chkOut awk78 (run (envP Tryz.prog awk78_h) 100000 awk78.f awk78.args (addAll awk78.pre .nil) awk78.n) = true := by kernel_rfl
theorem awk79_ok : cutOk awk79 = true := by kernel_rfl
set_option maxRecDepth 1000000 in
theorem awk79_run : chkOut awk79 (run (envP Tryz.prog awk79_h) 100000 awk79.f awk79.args (addAll awk79.pre .nil) awk79.n) = true := by kernel_rfl
theorem awk80_ok : cutOk awk80 = true := by kernel_rfl
set_option maxRecDepth 1000000 in
theorem awk80_run : chkOut awk80 (run (envP Tryz.prog awk80_h) 100000 awk80.f awk80.args (addAll awk80.pre .nil) awk80.n) = true := by kernel_rfl
theorem awk81_ok : cutOk awk81 = true := by kernel_rfl
set_option maxRecDepth 1000000 in
theorem awk81_run : chkOut awk81 (run (envP Tryz.prog awk81_h) 100000 awk81.f awk81.args (addAll awk81.pre .nil) awk81.n) = true := by kernel_rfl
theorem awk82_ok : cutOk awk82 = true := by kernel_rfl
set_option maxRecDepth 1000000 in
theorem awk82_run : chkOut awk82 (run (envP Tryz.prog awk82_h) 100000 awk82.f awk82.args (addAll awk82.pre .nil) awk82.n) = true := by kernel_rfl
theorem awk83_ok : cutOk awk83 = true := by kernel_rfl
set_option maxRecDepth 1000000 in
theorem awk83_run : chkOut awk83 (run (envP Tryz.prog awk83_h) 100000 awk83.f awk83.args (addAll awk83.pre .nil) awk83.n) = true := by kernel_rfl
theorem awk84_ok : cutOk awk84 = true := by kernel_rfl
set_option maxRecDepth 1000000 in
theorem awk84_run : chkOut awk84 (run (envP Tryz.prog awk84_h) 100000 awk84.f awk84.args (addAll awk84.pre .nil) awk84.n) = true := by kernel_rfl
theorem awk85_ok : cutOk awk85 = true := by kernel_rfl
set_option maxRecDepth 1000000 in
theorem awk85_run : chkOut awk85 (run (envP Tryz.prog awk85_h) 100000 awk85.f awk85.args (addAll awk85.pre .nil) awk85.n) = true := by kernel_rfl
theorem awk86_ok : cutOk awk86 = true := by kernel_rfl
set_option maxRecDepth 1000000 in
theorem awk86_run : chkOut awk86 (run (envP Tryz.prog awk86_h) 100000 awk86.f awk86.args (addAll awk86.pre .nil) awk86.n) = true := by kernel_rfl
theorem awk87_ok : cutOk awk87 = true := by kernel_rfl
set_option maxRecDepth 1000000 in
theorem awk87_run : chkOut awk87 (run (envP Tryz.prog awk87_h) 100000 awk87.f awk87.args (addAll awk87.pre .nil) awk87.n) = true := by kernel_rfl
theorem awk88_ok : cutOk awk88 = true := by kernel_rfl
set_option maxRecDepth 1000000 in
theorem awk88_run : chkOut awk88 (run (envP Tryz.prog awk88_h) 100000 awk88.f awk88.args (addAll awk88.pre .nil) awk88.n) = true := by kernel_rfl
theorem awk89_ok : cutOk awk89 = true := by kernel_rfl
set_option maxRecDepth 1000000 in
theorem awk89_run : chkOut awk89 (run (envP Tryz.prog awk89_h) 100000 awk89.f awk89.args (addAll awk89.pre .nil) awk89.n) = true := by kernel_rfl
theorem awk90_ok : cutOk awk90 = true := by kernel_rfl
set_option maxRecDepth 1000000 in
theorem awk90_run : chkOut awk90 (run (envP Tryz.prog awk90_h) 100000 awk90.f awk90.args (addAll awk90.pre .nil) awk90.n) = true := by kernel_rfl
theorem awk91_ok : cutOk awk91 = true := by kernel_rfl
set_option maxRecDepth 1000000 in
theorem awk91_run : chkOut awk91 (run (envP Tryz.prog awk91_h) 100000 awk91.f awk91.args (addAll awk91.pre .nil) awk91.n) = true := by kernel_rfl
theorem awk92_ok : cutOk awk92 = true := by kernel_rfl
set_option maxRecDepth 1000000 in
theorem awk92_run : chkOut awk92 (run (envP Tryz.prog awk92_h) 100000 awk92.f awk92.args (addAll awk92.pre .nil) awk92.n) = true := by kernel_rfl
end Go.Proofs.YtcbcegdidlefiaaGreat
