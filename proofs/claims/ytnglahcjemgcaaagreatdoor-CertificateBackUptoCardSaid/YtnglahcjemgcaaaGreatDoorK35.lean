/- What closed calls of this program answer (text 20). No condition. Printed by mkaw.py. -/
import Derived.Test.YtnglahcjemgcaaaGreatDoorK15
namespace Go.Proofs.YtnglahcjemgcaaaGreatDoor
open Go.RowKit

theorem axk106_ok : cutOk axk106 = true := by kernel_rfl
set_option maxRecDepth 1000000 in
theorem axk106_run : chkOut axk106 (run (envP Tryz.prog axk106_h) 100000 axk106.f axk106.args (addAll axk106.pre .nil) axk106.n) = true := by kernel_rfl
theorem axk107_ok : cutOk axk107 = true := by kernel_rfl
set_option maxRecDepth 1000000 in
theorem axk107_run : chkOut axk107 (run (envP Tryz.prog axk107_h) 100000 axk107.f axk107.args (addAll axk107.pre .nil) axk107.n) = true := by kernel_rfl
theorem axk108_ok : cutOk axk108 = true := by kernel_rfl
set_option maxRecDepth 1000000 in
theorem axk108_run : chkOut axk108 (run (envP Tryz.prog axk108_h) 100000 axk108.f axk108.args (addAll axk108.pre .nil) axk108.n) = true := by kernel_rfl
theorem axk109_ok : cutOk axk109 = true := by kernel_rfl
set_option maxRecDepth 1000000 in
theorem axk109_run : chkOut axk109 (run (envP Tryz.prog axk109_h) 100000 axk109.f axk109.args (addAll axk109.pre .nil) axk109.n) = true := by kernel_rfl
theorem axk110_ok : cutOk axk110 = true := by kernel_rfl
set_option maxRecDepth 1000000 in
theorem axk110_run : chkOut axk110 (run (envP Tryz.prog axk110_h) 100000 axk110.f axk110.args (addAll axk110.pre .nil) axk110.n) = true := by kernel_rfl
theorem axk111_ok : cutOk axk111 = true := by kernel_rfl
set_option maxRecDepth 1000000 in
theorem axk111_run : chkOut axk111 (run (envP Tryz.prog axk111_h) 100000 axk111.f axk111.args (addAll axk111.pre .nil) axk111.n) = true := by kernel_rfl
theorem axk112_ok : cutOk axk112 = true := by kernel_rfl
set_option maxRecDepth 1000000 in
theorem axk112_run : chkOut axk112 (run (envP Tryz.prog axk112_h) 100000 axk112.f axk112.args (addAll axk112.pre .nil) axk112.n) = true := by kernel_rfl
theorem axk113_ok : cutOk axk113 = true := by kernel_rfl
set_option maxRecDepth 1000000 in
theorem axk113_run : chkOut axk113 (run (envP Tryz.prog axk113_h) 100000 axk113.f axk113.args (addAll axk113.pre .nil) axk113.n) = true := by kernel_rfl
theorem axk114_ok : cutOk axk114 = true := by kernel_rfl
set_option maxRecDepth 1000000 in
theorem axk114_run : chkOut axk114 (run (envP Tryz.prog axk114_h) 100000 axk114.f axk114.args (addAll axk114.pre .nil) axk114.n) = true := by kernel_rfl
theorem axk115_ok : cutOk axk115 = true := by kernel_rfl
set_option maxRecDepth 1000000 in
theorem axk115_run : chkOut axk115 (run (envP Tryz.prog axk115_h) 100000 axk115.f axk115.args (addAll axk115.pre .nil) axk115.n) = true := by kernel_rfl
theorem axk116_ok : cutOk axk116 = true := by kernel_rfl
set_option maxRecDepth 1000000 in
theorem axk116_run : chkOut axk116 (run (envP Tryz.prog axk116_h) 100000 axk116.f axk116.args (addAll axk116.pre .nil) axk116.n) = true := by kernel_rfl
theorem axk117_ok : cutOk axk117 = true := by kernel_rfl
set_option maxRecDepth 1000000 in
theorem axk117_run : chkOut axk117 (run (envP Tryz.prog axk117_h) 100000 axk117.f axk117.args (addAll axk117.pre .nil) axk117.n) = true := by kernel_rfl
theorem axk118_ok : cutOk axk118 = true := by kernel_rfl
set_option maxRecDepth 1000000 in
theorem axk118_run : chkOut axk118 (run (envP Tryz.prog axk118_h) 100000 axk118.f axk118.args (addAll axk118.pre .nil) axk118.n) = true := by kernel_rfl
theorem axk119_ok : cutOk axk119 = true := by kernel_rfl
set_option maxRecDepth 1000000 in
theorem axk119_run : chkOut axk119 (run (envP Tryz.prog axk119_h) 100000 axk119.f axk119.args (addAll axk119.pre .nil) axk119.n) = true := by kernel_rfl
theorem axk120_ok : cutOk axk120 = true := by kernel_rfl
set_option maxRecDepth 1000000 in
theorem axk120_run : chkOut axk120 (run (envP Tryz.prog axk120_h) 100000 axk120.f axk120.args (addAll axk120.pre .nil) axk120.n) = true := by kernel_rfl
theorem axk121_ok : cutOk axk121 = true := by kernel_rfl
set_option maxRecDepth 1000000 in
theorem axk121_run : chkOut axk121 (run (envP Tryz.prog axk121_h) 100000 axk121.f axk121.args (addAll axk121.pre .nil) axk121.n) = true := by kernel_rfl
theorem axk122_ok : cutOk axk122 = true := by kernel_rfl
set_option maxRecDepth 1000000 in
theorem axk122_run : chkOut axk122 (run (envP Tryz.prog axk122_h) 100000 axk122.f axk122.args (addAll axk122.pre .nil) axk122.n) = true := by kernel_rfl
theorem axk123_ok : cutOk axk123 = true := by kernel_rfl
set_option maxRecDepth 1000000 in
theorem axk123_run : chkOut axk123 (run (envP Tryz.prog axk123_h) 100000 axk123.f axk123.args (addAll axk123.pre .nil) axk123.n) = true := by kernel_rfl
theorem axk124_ok : cutOk axk124 = true := by kernel_rfl
set_option maxRecDepth 1000000 in
theorem axk124_run : chkOut axk124 (run (envP Tryz.prog axk124_h) 100000 axk124.f axk124.args (addAll axk124.pre .nil) axk124.n) = true := by kernel_rfl
theorem axk125_ok : cutOk axk125 = true := by kernel_rfl
set_option maxRecDepth 1000000 in
theorem axk125_run : chkOut axk125 (run (envP Tryz.prog axk125_h) 100000 axk125.f axk125.args (addAll axk125.pre .nil) axk125.n) = true := by kernel_rfl
theorem axk126_ok : cutOk axk126 = true := by kernel_rfl
set_option maxRecDepth 1000000 in
theorem axk126_run : chkOut axk126 (run (envP Tryz.prog axk126_h) 100000 axk126.f axk126.args (addAll axk126.pre .nil) axk126.n) = true := by kernel_rfl
theorem axk127_ok : cutOk axk127 = true := by kernel_rfl
set_option maxRecDepth 1000000 in
theorem axk127_run : chkOut axk127 (run (envP Tryz.prog axk127_h) 100000 axk127.f axk127.args (addAll axk127.pre .nil) axk127.n) = true := by kernel_rfl
end Go.Proofs.YtnglahcjemgcaaaGreatDoor
