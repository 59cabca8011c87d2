/- What closed calls of this program answer (text 17). No condition. Printed by mkaw.py. -/
import Derived.Test.YtnglahcjemgcaaaGreatDoorK15
namespace Go.Proofs.YtnglahcjemgcaaaGreatDoor
open Go.RowKit

theorem axk80_ok : cutOk axk80 = true := by kernel_rfl
set_option maxRecDepth 1000000 in
theorem axk80_run : chkOut axk80 (run (envP Tryz.prog axk80_h) 100000 axk80.f axk80.args (addAll axk80.pre .nil) axk80.n) = true := by kernel_rfl
theorem axk81_ok : cutOk axk81 = true := by kernel_rfl
set_option maxRecDepth 1000000 in
theorem axk81_run : chkOut axk81 (run (envP Tryz.prog axk81_h) 100000 axk81.f axk81.args (addAll axk81.pre .nil) axk81.n) = true := by kernel_rfl
theorem axk82_ok : cutOk axk82 = true := by kernel_rfl
set_option maxRecDepth 1000000 in
theorem axk82_run : chkOut axk82 (run (envP Tryz.prog axk82_h) 100000 axk82.f axk82.args (addAll axk82.pre .nil) axk82.n) = true := by kernel_rfl
theorem axk83_ok : cutOk axk83 = true := by kernel_rfl
set_option maxRecDepth 1000000 in
theorem axk83_run : chkOut axk83 (run (envP Tryz.prog axk83_h) 100000 axk83.f axk83.args (addAll axk83.pre .nil) axk83.n) = true := by kernel_rfl
theorem axk84_ok : cutOk axk84 = true := by kernel_rfl
set_option maxRecDepth 1000000 in
theorem axk84_run : chkOut axk84 (run (envP Tryz.prog axk84_h) 100000 axk84.f axk84.args (addAll axk84.pre .nil) axk84.n) = true := by kernel_rfl
theorem axk85_ok : cutOk axk85 = true := by kernel_rfl
set_option maxRecDepth 1000000 in
theorem axk85_run : chkOut axk85 (run (envP Tryz.prog axk85_h) 100000 axk85.f axk85.args (addAll axk85.pre .nil) axk85.n) = true := by kernel_rfl
theorem axk86_ok : cutOk axk86 = true := by kernel_rfl
set_option maxRecDepth 1000000 in
theorem axk86_run : chkOut axk86 (run (envP Tryz.prog axk86_h) 100000 axk86.f axk86.args (addAll axk86.pre .nil) axk86.n) = true := by kernel_rfl
theorem axk87_ok : cutOk axk87 = true := by kernel_rfl
set_option maxRecDepth 1000000 in
theorem axk87_run : chkOut axk87 (run (envP Tryz.prog axk87_h) 100000 axk87.f axk87.args (addAll axk87.pre .nil) axk87.n) = true := by kernel_rfl
theorem axk88_ok : cutOk axk88 = true := by kernel_rfl
set_option maxRecDepth 1000000 in
theorem axk88_run : chkOut axk88 (run (envP Tryz.prog axk88_h) 100000 axk88.f axk88.args (addAll axk88.pre .nil) axk88.n) = true := by kernel_rfl
theorem axk89_ok : cutOk axk89 = true := by kernel_rfl
set_option maxRecDepth 1000000 in
theorem axk89_run : chkOut axk89 (run (envP Tryz.prog axk89_h) 100000 axk89.f axk89.args (addAll axk89.pre .nil) axk89.n) = true := by kernel_rfl
theorem axk90_ok : cutOk axk90 = true := by kernel_rfl
set_option maxRecDepth 1000000 in
theorem axk90_run : chkOut axk90 (run (envP Tryz.prog axk90_h) 100000 axk90.f axk90.args (addAll axk90.pre .nil) axk90.n) = true := by kernel_rfl
theorem axk91_ok : cutOk axk91 = true := by kernel_rfl
set_option maxRecDepth 1000000 in
theorem axk91_run : chkOut axk91 (run (envP Tryz.prog axk91_h) 100000 axk91.f axk91.args (addAll axk91.pre .nil) axk91.n) = true := by kernel_rfl
theorem axk92_ok : cutOk axk92 = true := by kernel_rfl
set_option maxRecDepth 1000000 in
theorem axk92_run : chkOut axk92 (run (envP Tryz.prog axk92_h) 100000 axk92.f axk92.args (addAll axk92.pre .nil) axk92.n) = true := by kernel_rfl
theorem axk93_ok : cutOk axk93 = true := by kernel_rfl
set_option maxRecDepth 1000000 in
theorem axk93_run : chkOut axk93 (run (envP Tryz.prog axk93_h) 100000 axk93.f axk93.args (addAll axk93.pre .nil) axk93.n) = true := by kernel_rfl
theorem axk94_ok : cutOk axk94 = true := by kernel_rfl
set_option maxRecDepth 1000000 in
theorem axk94_run : chkOut axk94 (run (envP Tryz.prog axk94_h) 100000 axk94.f axk94.args (addAll axk94.pre .nil) axk94.n) = true := by kernel_rfl
theorem axk95_ok : cutOk axk95 = true := by kernel_rfl
set_option maxRecDepth 1000000 in
theorem axk95_run : chkOut axk95 (run (envP Tryz.prog axk95_h) 100000 axk95.f axk95.args (addAll axk95.pre .nil) axk95.n) = true := by kernel_rfl
theorem axk96_ok : cutOk axk96 = true := by kernel_rfl
set_option maxRecDepth 1000000 in
theorem axk96_run : chkOut axk96 (run (envP Tryz.prog axk96_h) 100000 axk96.f axk96.args (addAll axk96.pre .nil) axk96.n) = true := by kernel_rfl
theorem axk97_ok : cutOk axk97 = true := by kernel_rfl
set_option maxRecDepth 1000000 in
theorem axk97_run : chkOut axk97 (run (envP Tryz.prog axk97_h) 100000 axk97.f axk97.args (addAll axk97.pre .nil) axk97.n) = true := by kernel_rfl
theorem axk98_ok : cutOk axk98 = true := by kernel_rfl
set_option maxRecDepth 1000000 in
theorem axk98_run : chkOut axk98 (run (envP Tryz.prog axk98_h) 100000 axk98.f axk98.args (addAll axk98.pre .nil) axk98.n) = true := by kernel_rfl
theorem axk99_ok : cutOk axk99 = true := by kernel_rfl
set_option maxRecDepth 1000000 in
theorem axk99_run : chkOut axk99 (run (envP Tryz.prog axk99_h) 100000 axk99.f axk99.args (addAll axk99.pre .nil) axk99.n) = true := by kernel_rfl
theorem axk100_ok : cutOk axk100 = true := by kernel_rfl
set_option maxRecDepth 1000000 in
theorem axk100_run : chkOut axk100 (run (envP Tryz.prog axk100_h) 100000 axk100.f axk100.args (addAll axk100.pre .nil) axk100.n) = true := by kernel_rfl
theorem axk101_ok : cutOk axk101 = true := by kernel_rfl
set_option maxRecDepth 1000000 in
theorem axk101_run : chkOut axk101 (run (envP Tryz.prog axk101_h) 100000 axk101.f axk101.args (addAll axk101.pre .nil) axk101.n) = true := by kernel_rfl
theorem axk102_ok : cutOk axk102 = true := by kernel_rfl
set_option maxRecDepth 1000000 in
theorem axk102_run : chkOut axk102 (run (envP Tryz.prog axk102_h) 100000 axk102.f axk102.args (addAll axk102.pre .nil) axk102.n) = true := by kernel_rfl
theorem axk103_ok : cutOk axk103 = true := by kernel_rfl
set_option maxRecDepth 1000000 in
theorem axk103_run : chkOut axk103 (run (envP Tryz.prog axk103_h) 100000 axk103.f axk103.args (addAll axk103.pre .nil) axk103.n) = true := by kernel_rfl
end Go.Proofs.YtnglahcjemgcaaaGreatDoor
