/- What closed calls of this program answer (text 4). No condition. Printed by mkaw.py. -/
import Derived.Test.YtcbcegdidlefiaaGreatK24
namespace Go.Proofs.YtcbcegdidlefiaaGreat
open Go.RowKit

theorem awk93_ok : cutOk awk93 = true := by kernel_rfl
set_option maxRecDepth 1000000 in
theorem awk93_run : chkOut awk93 (run (envP Tryz.prog awk93_h) 100000 awk93.f awk93.args (addAll awk93.pre .nil) awk93.n) = true := by kernel_rfl
theorem awk94_ok : cutOk awk94 = true := by kernel_rfl
set_option maxRecDepth 1000000 in
theorem awk94_run : chkOut awk94 (run (envP Tryz.prog awk94_h) 100000 awk94.f awk94.args (addAll awk94.pre .nil) awk94.n) = true := by kernel_rfl
theorem awk95_ok : cutOk awk95 = true := by kernel_rfl
set_option maxRecDepth 1000000 in
theorem awk95_run : chkOut awk95 (run (envP Tryz.prog awk95_h) 100000 awk95.f awk95.args (addAll awk95.pre .nil) awk95.n) = true := by kernel_rfl
theorem awk96_ok : cutOk awk96 = true := by kernel_rfl
set_option maxRecDepth 1000000 in
theorem awk96_run : chkOut awk96 (run (envP Tryz.prog awk96_h) 100000 awk96.f awk96.args (addAll awk96.pre .nil) awk96.n) = true := by kernel_rfl
theorem awk97_ok : cutOk awk97 = true := by kernel_rfl
set_option maxRecDepth 1000000 in
theorem awk97_run : chkOut awk97 (run (envP Tryz.prog awk97_h) 100000 awk97.f awk97.args (addAll awk97.pre .nil) awk97.n) = true := by kernel_rfl
theorem awk98_ok : cutOk awk98 = true := by kernel_rfl
set_option maxRecDepth 1000000 in
theorem awk98_run : chkOut awk98 (run (envP Tryz.prog awk98_h) 100000 awk98.f awk98.args (addAll awk98.pre .nil) awk98.n) = true := by kernel_rfl
theorem awk99_ok : cutOk awk99 = true := by kernel_rfl
set_option maxRecDepth 1000000 in
theorem awk99_run : chkOut awk99 (run (envP Tryz.prog awk99_h) 100000 awk99.f awk99.args (addAll awk99.pre .nil) awk99.n) = true := by kernel_rfl
theorem awk100_ok : cutOk awk100 = true := by kernel_rfl
set_option maxRecDepth 1000000 in
theorem awk100_run : chkOut awk100 (run (envP Tryz.prog awk100_h) 100000 awk100.f awk100.args (addAll awk100.pre .nil) awk100.n) = true := by kernel_rfl
theorem awk101_ok : cutOk awk101 = true := by kernel_rfl
set_option maxRecDepth 1000000 in
theorem awk101_run : chkOut awk101 (run (envP Tryz.prog awk101_h) 100000 awk101.f awk101.args (addAll awk101.pre .nil) awk101.n) = true := by kernel_rfl
theorem awk102_ok : cutOk awk102 = true := by kernel_rfl
set_option maxRecDepth 1000000 in
theorem awk102_run : chkOut awk102 (run (envP Tryz.prog awk102_h) 100000 awk102.f awk102.args (addAll awk102.pre .nil) awk102.n) = true := by kernel_rfl
theorem awk103_ok : cutOk awk103 = true := by kernel_rfl
set_option maxRecDepth 1000000 in
theorem awk103_run : chkOut awk103 (run (envP Tryz.prog awk103_h) 100000 awk103.f awk103.args (addAll awk103.pre .nil) awk103.n) = true := by kernel_rfl
theorem awk104_ok : cutOk awk104 = true := by kernel_rfl
set_option maxRecDepth 1000000 in
theorem awk104_run : chkOut awk104 (run (envP Tryz.prog awk104_h) 100000 awk104.f awk104.args (addAll awk104.pre .nil) awk104.n) = true := by kernel_rfl
theorem awk105_ok : cutOk awk105 = true := by kernel_rfl
set_option maxRecDepth 1000000 in
theorem awk105_run : chkOut awk105 (run (envP Tryz.prog awk105_h) 100000 awk105.f awk105.args (addAll awk105.pre .nil) awk105.n) = true := by kernel_rfl
theorem awk106_ok : cutOk awk106 = true := by kernel_rfl
set_option maxRecDepth 1000000 in
theorem awk106_run : chkOut awk106 (run (envP Tryz.prog awk106_h) 100000 awk106.f awk106.args (addAll awk106.pre .nil) awk106.n) = true := by kernel_rfl
theorem awk107_ok : cutOk awk107 = true := by kernel_rfl
set_option maxRecDepth 1000000 in
theorem awk107_run : chkOut awk107 (run (envP Tryz.prog awk107_h) 100000 awk107.f awk107.args (addAll awk107.pre .nil) awk107.n) = true := by kernel_rfl
theorem awk108_ok : cutOk awk108 = true := by kernel_rfl
set_option maxRecDepth 1000000 in
theorem awk108_run : chkOut awk108 (run (envP Tryz.prog awk108_h) 100000 awk108.f awk108.args (addAll awk108.pre .nil) awk108.n) = true := by kernel_rfl
theorem awk109_ok : cutOk awk109 = true := by kernel_rfl
set_option maxRecDepth 1000000 in
theorem awk109_run : chkOut awk109 (run (envP Tryz.prog awk109_h) 100000 awk109.f awk109.args (addAll awk109.pre .nil) awk109.n) = true := by kernel_rfl
theorem awk110_ok : cutOk awk110 = true := by kernel_rfl
set_option maxRecDepth 1000000 in
theorem awk110_run : chkOut awk110 (run (envP Tryz.prog awk110_h) 100000 awk110.f awk110.args (addAll awk110.pre .nil) awk110.n) = true := by kernel_rfl
theorem awk111_ok : cutOk awk111 = true := by kernel_rfl
set_option maxRecDepth 1000000 in
theorem awk111_run : chkOut awk111 (run (envP Tryz.prog awk111_h) 100000 awk111.f awk111.args (addAll awk111.pre .nil) awk111.n) = true := by kernel_rfl
theorem awk112_ok : cutOk awk112 = true := by kernel_rfl
set_option maxRecDepth 1000000 in
theorem awk112_run : chkOut awk112 (run (envP Tryz.prog awk112_h) 100000 awk112.f awk112.args (addAll awk112.pre .nil) awk112.n) = true := by kernel_rfl
theorem awk113_ok : cutOk awk113 = true := by kernel_rfl
set_option maxRecDepth 1000000 in
theorem awk113_run : chkOut awk113 (run (envP Tryz.prog awk113_h) 100000 awk113.f awk113.args (addAll awk113.pre .nil) awk113.n) = true := by kernel_rfl
theorem awk114_ok : cutOk awk114 = true := by kernel_rfl
set_option maxRecDepth 1000000 in
theorem awk114_run : chkOut awk114 (run (envP Tryz.prog awk114_h) 100000 awk114.f awk114.args (addAll awk114.pre .nil) awk114.n) = true := by kernel_rfl
theorem awk115_ok : cutOk awk115 = true := by kernel_rfl
set_option maxRecDepth 1000000 in
theorem awk115_run : chkOut awk115 (run (envP Tryz.prog awk115_h) 100000 awk115.f awk115.args (addAll awk115.pre .nil) awk115.n) = true := by kernel_rfl
theorem awk116_ok : cutOk awk116 = true := by kernel_rfl
set_option maxRecDepth 1000000 in
theorem awk116_run : chkOut awk116 (run (envP Tryz.prog awk116_h) 100000 awk116.f awk116.args (addAll awk116.pre .nil) awk116.n) = true := by kernel_rfl
theorem awk117_ok : cutOk awk117 = true := by kernel_rfl
set_option maxRecDepth 1000000 in
theorem awk117_run : chkOut awk117 (run (envP Tryz.prog awk117_h) 100000 awk117.f awk117.args (addAll awk117.pre .nil) awk117.n) = true := by kernel_rfl
theorem awk118_ok : cutOk awk118 = true := by kernel_rfl
set_option maxRecDepth 1000000 in
theorem awk118_run : chkOut awk118 (run (envP Tryz.prog awk118_h) 100000 awk118.f awk118.args (addAll awk118.pre .nil) awk118.n) = true := by kernel_rfl
theorem awk119_ok : cutOk awk119 = true := by kernel_rfl
set_option maxRecDepth 1000000 in
theorem awk119_run : chkOut awk119 (run (envP Tryz.prog awk119_h) 100000 awk119.f awk119.args (addAll awk119.pre .nil) awk119.n) = true := by kernel_rfl
theorem awk120_ok : cutOk awk120 = true := by kernel_rfl
set_option maxRecDepth 1000000 in
theorem awk120_run : chkOut awk120 (run (envP Tryz.prog awk120_h) 100000 awk120.f awk120.args (addAll awk120.pre .nil) awk120.n) = true := by kernel_rfl
theorem awk121_ok : cutOk awk121 = true := by kernel_rfl
set_option maxRecDepth 1000000 in
theorem awk121_run : chkOut awk121 (run (envP Tryz.prog awk121_h) 100000 awk121.f awk121.args (addAll awk121.pre .nil) awk121.n) = true := by kernel_rfl
theorem awk122_ok : cutOk awk122 = true := by kernel_rfl
set_option maxRecDepth 1000000 in
theorem awk122_run : chkOut awk122 (run (envP Tryz.prog awk122_h) 100000 awk122.f awk122.args (addAll awk122.pre .nil) awk122.n) = true := by kernel_rfl
theorem awk123_ok : cutOk awk123 = true := by kernel_rfl
set_option maxRecDepth 1000000 in
theorem awk123_run : chkOut awk123 (run (envP Tryz.prog awk123_h) 100000 awk123.f awk123.args (addAll awk123.pre .nil) awk123.n) = true := by kernel_rfl
theorem awk124_ok : cutOk awk124 = true := by kernel_rfl
set_option maxRecDepth 1000000 in
theorem awk124_run : chkOut awk124 (run (envP Tryz.prog awk124_h) 100000 awk124.f awk124.args (addAll awk124.pre .nil) awk124.n) = true := by kernel_rfl
end Go.Proofs.YtcbcegdidlefiaaGreat
