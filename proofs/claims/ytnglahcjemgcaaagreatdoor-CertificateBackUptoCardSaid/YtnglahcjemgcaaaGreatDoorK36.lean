/- What closed calls of this program answer (text 21). No condition. Printed by mkaw.py. -/
import Derived.Test.YtnglahcjemgcaaaGreatDoorK15
namespace Go.Proofs.YtnglahcjemgcaaaGreatDoor
open Go.RowKit

theorem axk128_ok : cutOk axk128 = true := by kernel_rfl
set_option maxRecDepth 1000000 in
theorem axk128_run : chkOut axk128 (run (envP Tryz.prog axk128_h) 100000 axk128.f axk128.args (addAll axk128.pre .nil) axk128.n) = true := by kernel_rfl
theorem axk129_ok : cutOk axk129 = true := by kernel_rfl
set_option maxRecDepth 1000000 in
theorem axk129_run : chkOut axk129 (run (envP Tryz.prog axk129_h) 100000 axk129.f axk129.args (addAll axk129.pre .nil) axk129.n) = true := by kernel_rfl
theorem axk130_ok : cutOk axk130 = true := by kernel_rfl
set_option maxRecDepth 1000000 in
theorem axk130_run : chkOut axk130 (run (envP Tryz.prog axk130_h) 100000 axk130.f axk130.args (addAll axk130.pre .nil) axk130.n) = true := by kernel_rfl
theorem axk131_ok : cutOk axk131 = true := by kernel_rfl
set_option maxRecDepth 1000000 in
theorem axk131_run : chkOut axk131 (run (envP Tryz.prog axk131_h) 100000 axk131.f axk131.args (addAll axk131.pre .nil) axk131.n) = true := by kernel_rfl
theorem axk132_ok : cutOk axk132 = true := by kernel_rfl
set_option maxRecDepth 1000000 in
theorem axk132_run : chkOut axk132 (run (envP Tryz.prog axk132_h) 100000 axk132.f axk132.args (addAll axk132.pre .nil) axk132.n) = true := by kernel_rfl
theorem axk133_ok : cutOk axk133 = true := by kernel_rfl
set_option maxRecDepth 1000000 in
theorem axk133_run : chkOut axk133 (run (envP Tryz.prog axk133_h) 100000 axk133.f axk133.args (addAll axk133.pre .nil) axk133.n) = true := by kernel_rfl
theorem axk134_ok : cutOk axk134 = true := by kernel_rfl
set_option maxRecDepth 1000000 in
theorem axk134_run : chkOut axk134 (run (envP Tryz.prog axk134_h) 100000 axk134.f axk134.args (addAll axk134.pre .nil) axk134.n) = true := by kernel_rfl
theorem axk135_ok : cutOk axk135 = true := by kernel_rfl
set_option maxRecDepth 1000000 in
theorem axk135_run : chkOut axk135 (run (envP Tryz.prog axk135_h) 100000 axk135.f axk135.args (addAll axk135.pre .nil) axk135.n) = true := by kernel_rfl
theorem axk136_ok : cutOk axk136 = true := by kernel_rfl
set_option maxRecDepth 1000000 in
theorem axk136_run : chkOut axk136 (run (envP Tryz.prog axk136_h) 100000 axk136.f axk136.args (addAll axk136.pre .nil) axk136.n) = true := by kernel_rfl
theorem axk137_ok : cutOk axk137 = true := by kernel_rfl
set_option maxRecDepth 1000000 in
theorem axk137_run : chkOut axk137 (run (envP Tryz.prog axk137_h) 100000 axk137.f axk137.args (addAll axk137.pre .nil) axk137.n) = true := by kernel_rfl
theorem axk138_ok : cutOk axk138 = true := by kernel_rfl
set_option maxRecDepth 1000000 in
theorem axk138_run : chkOut axk138 (run (envP Tryz.prog axk138_h) 100000 axk138.f axk138.args (addAll axk138.pre .nil) axk138.n) = true := by kernel_rfl
theorem axk139_ok : cutOk axk139 = true := by kernel_rfl
set_option maxRecDepth 1000000 in
theorem axk139_run : chkOut axk139 (run (envP Tryz.prog axk139_h) 100000 axk139.f axk139.args (addAll axk139.pre .nil) axk139.n) = true := by kernel_rfl
theorem axk140_ok : cutOk axk140 = true := by kernel_rfl
set_option maxRecDepth 1000000 in
theorem axk140_run : chkOut axk140 (run (envP Tryz.prog axk140_h) 100000 axk140.f axk140.args (addAll axk140.pre .nil) axk140.n) = true := by kernel_rfl
theorem axk141_ok : cutOk axk141 = true := by kernel_rfl
set_option maxRecDepth 1000000 in
theorem axk141_run : chkOut axk141 (run (envP Tryz.prog axk141_h) 100000 axk141.f axk141.args (addAll axk141.pre .nil) axk141.n) = true := by kernel_rfl
theorem axk142_ok : cutOk axk142 = true := by kernel_rfl
set_option maxRecDepth 1000000 in
theorem axk142_run : chkOut axk142 (run (envP Tryz.prog axk142_h) 100000 axk142.f axk142.args (addAll axk142.pre .nil) axk142.n) = true := by kernel_rfl
theorem axk143_ok : cutOk axk143 = true := by kernel_rfl
set_option maxRecDepth 1000000 in
theorem axk143_run : chkOut axk143 (run (envP Tryz.prog axk143_h) 100000 axk143.f axk143.args (addAll axk143.pre .nil) axk143.n) = true := by kernel_rfl
theorem axk144_ok : cutOk axk144 = true := by kernel_rfl
set_option maxRecDepth 1000000 in
theorem axk144_run : chkOut axk144 (run (envP Tryz.prog axk144_h) 100000 axk144.f axk144.args (addAll axk144.pre .nil) axk144.n) = true := by kernel_rfl
theorem axk145_ok : cutOk axk145 = true := by kernel_rfl
set_option maxRecDepth 1000000 in
theorem axk145_run : chkOut axk145 (run (envP Tryz.prog axk145_h) 100000 axk145.f axk145.args (addAll axk145.pre .nil) axk145.n) = true := by kernel_rfl
theorem axk146_ok : cutOk axk146 = true := by kernel_rfl
set_option maxRecDepth 1000000 in
theorem axk146_run : chkOut axk146 (run (envP Tryz.prog axk146_h) 100000 axk146.f axk146.args (addAll axk146.pre .nil) axk146.n) = true := by kernel_rfl
theorem axk147_ok : cutOk axk147 = true := by kernel_rfl
set_option maxRecDepth 1000000 in
theorem axk147_run : chkOut axk147 (run (envP Tryz.prog axk147_h) 100000 axk147.f axk147.args (addAll axk147.pre .nil) axk147.n) = true := by kernel_rfl
theorem axk148_ok : cutOk axk148 = true := by kernel_rfl
set_option maxRecDepth 1000000 in
theorem axk148_run : chkOut axk148 (run (envP Tryz.prog axk148_h) 100000 axk148.f axk148.args (addAll axk148.pre .nil) axk148.n) = true := by kernel_rfl
theorem axk149_ok : cutOk axk149 = true := by kernel_rfl
set_option maxRecDepth 1000000 in
theorem axk149_run : chkOut axk149 (run (envP Tryz.prog axk149_h) 100000 axk149.f axk149.args (addAll axk149.pre .nil) axk149.n) = true := by kernel_rfl
theorem axk150_ok : cutOk axk150 = true := by kernel_rfl
set_option maxRecDepth 1000000 in
theorem axk150_run : chkOut axk150 (run (envP Tryz.prog axk150_h) 100000 axk150.f axk150.args (addAll axk150.pre .nil) axk150.n) = true := by kernel_rfl
theorem axk151_ok : cutOk axk151 = true := by kernel_rfl
set_option maxRecDepth 1000000 in
theorem axk151_run : chkOut axk151 (run (envP Tryz.prog axk151_h) 100000 axk151.f axk151.args (addAll axk151.pre .nil) axk151.n) = true := by kernel_rfl
theorem axk152_ok : cutOk axk152 = true := by kernel_rfl
set_option maxRecDepth 1000000 in
theorem axk152_run : chkOut axk152 (run (envP Tryz.prog axk152_h) 100000 axk152.f axk152.args (addAll axk152.pre .nil) axk152.n) = true := by kernel_rfl
theorem axk153_ok : cutOk axk153 = true := by kernel_rfl
set_option maxRecDepth 1000000 in
theorem axk153_run : chkOut axk153 (run (envP Tryz.prog axk153_h) 100000 axk153.f axk153.args (addAll axk153.pre .nil) axk153.n) = true := by kernel_rfl
theorem axk154_ok : cutOk axk154 = true := by kernel_rfl
set_option maxRecDepth 1000000 in
theorem axk154_run : chkOut axk154 (run (envP Tryz.prog axk154_h) 100000 axk154.f axk154.args (addAll axk154.pre .nil) axk154.n) = true := by kernel_rfl
theorem axk155_ok : cutOk axk155 = true := by kernel_rfl
set_option maxRecDepth 1000000 in
theorem axk155_run : chkOut axk155 (run (envP Tryz.prog axk155_h) 100000 axk155.f axk155.args (addAll axk155.pre .nil) axk155.n) = true := by kernel_rfl
theorem axk156_ok : cutOk axk156 = true := by kernel_rfl
set_option maxRecDepth 1000000 in
theorem axk156_run : chkOut axk156 (run (envP Tryz.prog axk156_h) 100000 axk156.f axk156.args (addAll axk156.pre .nil) axk156.n) = true := by kernel_rfl
theorem axk157_ok : cutOk axk157 = true := by kernel_rfl
set_option maxRecDepth 1000000 in
theorem axk157_run : chkOut axk157 (run (envP Tryz.prog axk157_h) 100000 axk157.f axk157.args (addAll axk157.pre .nil) axk157.n) = true := by kernel_rfl
end Go.Proofs.YtnglahcjemgcaaaGreatDoor
