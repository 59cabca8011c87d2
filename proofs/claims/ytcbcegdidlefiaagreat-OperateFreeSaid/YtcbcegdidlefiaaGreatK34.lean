/- What closed calls of this program answer (text 10). No condition. Printed by mkaw.py. -/
import Derived.Test.YtcbcegdidlefiaaGreatK24
namespace Go.Proofs.YtcbcegdidlefiaaGreat
open Go.RowKit

theorem awk212_ok : cutOk awk212 = true := by kernel_rfl
set_option maxRecDepth 1000000 in
theorem awk212_run : chkOut awk212 (run (envP Tryz.prog awk212_h) 100000 awk212.f awk212.args (addAll awk212.pre .nil) awk212.n) = true := by kernel_rfl
theorem awk213_ok : cutOk awk213 = true := by kernel_rfl
set_option maxRecDepth 1000000 in
theorem awk213_run : chkOut awk213 (run (envP Tryz.prog awk213_h) 100000 awk213.f awk213.args (addAll awk213.pre .nil) awk213.n) = true := by kernel_rfl
theorem awk214_ok : cutOk awk214 = true := by kernel_rfl
set_option maxRecDepth 1000000 in
theorem awk214_run : chkOut awk214 (run (envP Tryz.prog awk214_h) 100000 awk214.f awk214.args (addAll awk214.pre .nil) awk214.n) = true := by kernel_rfl
theorem awk215_ok : cutOk awk215 = true := by kernel_rfl
set_option maxRecDepth 1000000 in
theorem awk215_run : chkOut awk215 (run (envP Tryz.prog awk215_h) 100000 awk215.f awk215.args (addAll awk215.pre .nil) awk215.n) = true := by kernel_rfl
theorem awk216_ok : cutOk awk216 = true := by kernel_rfl
set_option maxRecDepth 1000000 in
theorem awk216_run : chkOut awk216 (run (envP Tryz.prog awk216_h) 100000 awk216.f awk216.args (addAll awk216.pre .nil) awk216.n) = true := by kernel_rfl
theorem awk217_ok : cutOk awk217 = true := by kernel_rfl
set_option maxRecDepth 1000000 in
theorem awk217_run : chkOut awk217 (run (envP Tryz.prog awk217_h) 100000 awk217.f awk217.args (addAll awk217.pre .nil) awk217.n) = true := by kernel_rfl
theorem awk218_ok : cutOk awk218 = true := by kernel_rfl
set_option maxRecDepth 1000000 in
theorem awk218_run : chkOut awk218 (run (envP Tryz.prog awk218_h) 100000 awk218.f awk218.args (addAll awk218.pre .nil) awk218.n) = true := by kernel_rfl
theorem awk219_ok : cutOk awk219 = true := by kernel_rfl
set_option maxRecDepth 1000000 in
theorem awk219_run : chkOut awk219 (run (envP Tryz.prog awk219_h) 100000 awk219.f awk219.args (addAll awk219.pre .nil) awk219.n) = true := by kernel_rfl
theorem awk220_ok : cutOk awk220 = true := by kernel_rfl
set_option maxRecDepth 1000000 in
theorem awk220_run : chkOut awk220 (run (envP Tryz.prog awk220_h) 100000 awk220.f awk220.args (addAll awk220.pre .nil) awk220.n) = true := by kernel_rfl
theorem awk221_ok : cutOk awk221 = true := by kernel_rfl
set_option maxRecDepth 1000000 in
theorem awk221_run : chkOut awk221 (run (envP Tryz.prog awk221_h) 100000 awk221.f awk221.args (addAll awk221.pre .nil) awk221.n) = true := by kernel_rfl
theorem awk222_ok : cutOk awk222 = true := by kernel_rfl
set_option maxRecDepth 1000000 in
theorem awk222_run : chkOut awk222 (run (envP Tryz.prog awk222_h) 100000 awk222.f awk222.args (addAll awk222.pre .nil) awk222.n) = true := by kernel_rfl
theorem awk223_ok : cutOk awk223 = true := by kernel_rfl
set_option maxRecDepth 1000000 in
theorem awk223_run : chkOut awk223 (run (envP Tryz.prog awk223_h) 100000 awk223.f awk223.args (addAll awk223.pre .nil) awk223.n) = true := by kernel_rfl
theorem awk224_ok : cutOk awk224 = true := by kernel_rfl
set_option maxRecDepth 1000000 in
theorem awk224_run : chkOut awk224 (run (envP Tryz.prog awk224_h) 100000 awk224.f awk224.args (addAll awk224.pre .nil) awk224.n) = true := by kernel_rfl
theorem awk225_ok : cutOk awk225 = true := by kernel_rfl
set_option maxRecDepth 1000000 in
theorem awk225_run : chkOut awk225 (run (envP Tryz.prog awk225_h) 100000 awk225.f awk225.args (addAll awk225.pre .nil) awk225.n) = true := by kernel_rfl
theorem awk226_ok : cutOk awk226 = true := by kernel_rfl
set_option maxRecDepth 1000000 in
theorem awk226_run : chkOut awk226 (run (envP Tryz.prog awk226_h) 100000 awk226.f awk226.args (addAll awk226.pre .nil) awk226.n) = true := by kernel_rfl
theorem awk227_ok : cutOk awk227 = true := by kernel_rfl
set_option maxRecDepth 1000000 in
theorem awk227_run : chkOut awk227 (run (envP Tryz.prog awk227_h) 100000 awk227.f awk227.args (addAll awk227.pre .nil) awk227.n) = true := by kernel_rfl
theorem awk228_ok : cutOk awk228 = true := by kernel_rfl
set_option maxRecDepth 1000000 in
theorem awk228_run : chkOut awk228 (run (envP Tryz.prog awk228_h) 100000 awk228.f awk228.args (addAll awk228.pre .nil) awk228.n) = true := by kernel_rfl
theorem awk229_ok : cutOk awk229 = true := by kernel_rfl
set_option maxRecDepth 1000000 in
theorem awk229_run : chkOut awk229 (run (envP Tryz.prog awk229_h) 100000 awk229.f awk229.args (addAll awk229.pre .nil) awk229.n) = true := by kernel_rfl
theorem awk230_ok : cutOk awk230 = true := by kernel_rfl
set_option maxRecDepth 1000000 in
theorem awk230_run : chkOut awk230 (run (envP Tryz.prog awk230_h) 100000 awk230.f awk230.args (addAll awk230.pre .nil) awk230.n) = true := by kernel_rfl
theorem awk231_ok : cutOk awk231 = true := by kernel_rfl
set_option maxRecDepth 1000000 in
theorem awk231_run : chkOut awk231 (run (envP Tryz.prog awk231_h) 100000 awk231.f awk231.args (addAll awk231.pre .nil) awk231.n) = true := by kernel_rfl
theorem awk232_ok : cutOk awk232 = true := by kernel_rfl
set_option maxRecDepth 1000000 in
theorem awk232_run : chkOut awk232 (run (envP Tryz.prog awk232_h) 100000 awk232.f awk232.args (addAll awk232.pre .nil) awk232.n) = true := by kernel_rfl
theorem awk233_ok : cutOk awk233 = true := by kernel_rfl
set_option maxRecDepth 1000000 in
theorem awk233_run : chkOut awk233 (run (envP Tryz.prog awk233_h) 100000 awk233.f awk233.args (addAll awk233.pre .nil) awk233.n) = true := by kernel_rfl
theorem awk234_ok : cutOk awk234 = true := by kernel_rfl
set_option maxRecDepth 1000000 in
theorem awk234_run : chkOut awk234 (run (envP Tryz.prog awk234_h) 100000 awk234.f awk234.args (addAll awk234.pre .nil) awk234.n) = true := by kernel_rfl
theorem awk235_ok : cutOk awk235 = true := by kernel_rfl
set_option maxRecDepth 1000000 in
theorem awk235_run : chkOut awk235 (run (envP Tryz.prog awk235_h) 100000 awk235.f awk235.args (addAll awk235.pre .nil) awk235.n) = true := by kernel_rfl
theorem awk236_ok : cutOk awk236 = true := by kernel_rfl
set_option maxRecDepth 1000000 in
theorem awk236_run : chkOut awk236 (run (envP Tryz.prog awk236_h) 100000 awk236.f awk236.args (addAll awk236.pre .nil) awk236.n) = true := by kernel_rfl
theorem awk237_ok : cutOk awk237 = true := by kernel_rfl
set_option maxRecDepth 1000000 in
theorem awk237_run : chkOut awk237 (run (envP Tryz.prog awk237_h) 100000 awk237.f awk237.args (addAll awk237.pre .nil) awk237.n) = true := by kernel_rfl
theorem awk238_ok : cutOk awk238 = true := by kernel_rfl
set_option maxRecDepth 1000000 in
theorem awk238_run : chkOut awk238 (run (envP Tryz.prog awk238_h) 100000 awk238.f awk238.args (addAll awk238.pre .nil) awk238.n) = true := by kernel_rfl
theorem awk239_ok : cutOk awk239 = true := by kernel_rfl
set_option maxRecDepth 1000000 in
theorem awk239_run : chkOut awk239 (run (envP Tryz.prog awk239_h) 100000 awk239.f awk239.args (addAll awk239.pre .nil) awk239.n) = true := by kernel_rfl
end Go.Proofs.YtcbcegdidlefiaaGreat
