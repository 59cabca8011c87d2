/- What closed calls of this program answer (text 9). No condition. Printed by mkaw.py. -/
import Derived.Test.YtcbcegdidlefiaaGreatK24
namespace Go.Proofs.YtcbcegdidlefiaaGreat
open Go.RowKit

theorem awk195_ok : cutOk awk195 = true := by kernel_rfl
set_option maxRecDepth 1000000 in
theorem awk195_run : chkOut awk195 (run (envP Tryz.prog awk195_h) 100000 awk195.f awk195.args (addAll awk195.pre .nil) awk195.n) = true := by kernel_rfl
theorem awk196_ok : cutOk awk196 = true := by kernel_rfl
set_option maxRecDepth 1000000 in
theorem awk196_run : chkOut awk196 (run (envP Tryz.prog awk196_h) 100000 awk196.f awk196.args (addAll awk196.pre .nil) awk196.n) = true := by kernel_rfl
theorem awk197_ok : cutOk awk197 = true := by kernel_rfl
set_option maxRecDepth 1000000 in
theorem awk197_run : chkOut awk197 (run (envP Tryz.prog awk197_h) 100000 awk197.f awk197.args (addAll awk197.pre .nil) awk197.n) = true := by kernel_rfl
theorem awk198_ok : cutOk awk198 = true := by kernel_rfl
set_option maxRecDepth 1000000 in
theorem awk198_run : chkOut awk198 (run (envP Tryz.prog awk198_h) 100000 awk198.f awk198.args (addAll awk198.pre .nil) awk198.n) = true := by kernel_rfl
theorem awk199_ok : cutOk awk199 = true := by kernel_rfl
set_option maxRecDepth 1000000 in
theorem awk199_run : chkOut awk199 (run (envP Tryz.prog awk199_h) 100000 awk199.f awk199.args (addAll awk199.pre .nil) awk199.n) = true := by kernel_rfl
theorem awk200_ok : cutOk awk200 = true := by kernel_rfl
set_option maxRecDepth 1000000 in
theorem awk200_run : chkOut awk200 (run (envP Tryz.prog awk200_h) 100000 awk200.f awk200.args (addAll awk200.pre .nil) awk200.n) = true := by kernel_rfl
theorem awk201_ok : cutOk awk201 = true := by kernel_rfl
set_option maxRecDepth 1000000 in
theorem awk201_run : chkOut awk201 (run (envP Tryz.prog awk201_h) 100000 awk201.f awk201.args (addAll awk201.pre .nil) awk201.n) = true := by kernel_rfl
theorem awk202_ok : cutOk awk202 = true := by kernel_rfl
set_option maxRecDepth 1000000 in
theorem awk202_run : chkOut awk202 (run (envP Tryz.prog awk202_h) 100000 awk202.f awk202.args (addAll awk202.pre .nil) awk202.n) = true := by kernel_rfl
theorem awk203_ok : cutOk awk203 = true := by kernel_rfl
set_option maxRecDepth 1000000 in
theorem awk203_run : chkOut awk203 (run (envP Tryz.prog awk203_h) 100000 awk203.f awk203.args (addAll awk203.pre .nil) awk203.n) = true := by kernel_rfl
theorem awk204_ok : cutOk awk204 = true := by kernel_rfl
set_option maxRecDepth 1000000 in
theorem awk204_run : chkOut awk204 (run (envP Tryz.prog awk204_h) 100000 awk204.f awk204.args (addAll awk204.pre .nil) awk204.n) = true := by kernel_rfl
theorem awk205_ok : cutOk awk205 = true := by kernel_rfl
set_option maxRecDepth 1000000 in
theorem awk205_run : chkOut awk205 (run (envP Tryz.prog awk205_h) 100000 awk205.f awk205.args (addAll awk205.pre .nil) awk205.n) = true := by kernel_rfl
theorem awk206_ok : cutOk awk206 = true := by kernel_rfl
set_option maxRecDepth 1000000 in
theorem awk206_run : chkOut awk206 (run (envP Tryz.prog awk206_h) 100000 awk206.f awk206.args (addAll awk206.pre .nil) awk206.n) = true := by kernel_rfl
theorem awk207_ok : cutOk awk207 = true := by kernel_rfl
set_option maxRecDepth 1000000 in
theorem awk207_run : chkOut awk207 (run (envP Tryz.prog awk207_h) 100000 awk207.f awk207.args (addAll awk207.pre .nil) awk207.n) = true := by kernel_rfl
theorem awk208_ok : cutOk awk208 = true := by kernel_rfl
set_option maxRecDepth 1000000 in
theorem awk208_run : chkOut awk208 (run (envP Tryz.prog awk208_h) 100000 awk208.f awk208.args (addAll awk208.pre .nil) awk208.n) = true := by kernel_rfl
theorem awk209_ok : cutOk awk209 = true := by kernel_rfl
set_option maxRecDepth 1000000 in
theorem awk209_run : chkOut awk209 (run (envP Tryz.prog awk209_h) 100000 awk209.f awk209.args (addAll awk209.pre .nil) awk209.n) = true := by kernel_rfl
theorem awk210_ok : cutOk awk210 = true := by kernel_rfl
set_option maxRecDepth 1000000 in
theorem awk210_run : chkOut awk210 (run (envP Tryz.prog awk210_h) 100000 awk210.f awk210.args (addAll awk210.pre .nil) awk210.n) = true := by kernel_rfl
theorem awk211_ok : cutOk awk211 = true := by kernel_rfl
set_option maxRecDepth 1000000 in
theorem awk211_run : chkOut awk211 (run (envP Tryz.prog awk211_h) 100000 awk211.f awk211.args (addAll awk211.pre .nil) awk211.n) = true := by kernel_rfl
end Go.Proofs.YtcbcegdidlefiaaGreat
