/- What closed calls of this program answer (text 22). No condition. Printed by mkaw.py. -/
import Derived.Test.YtnglahcjemgcaaaGreatDoorK15
namespace Go.Proofs.YtnglahcjemgcaaaGreatDoor
open Go.RowKit

theorem axk158_ok : cutOk axk158 = true := by kernel_rfl
set_option maxRecDepth 1000000 in
theorem axk158_run : chkOut axk158 (run (envP Tryz.prog axk158_h) 100000 axk158.f axk158.args (addAll axk158.pre .nil) axk158.n) = true := by kernel_rfl
theorem axk159_ok : cutOk axk159 = true := by kernel_rfl
set_option maxRecDepth 1000000 in
theorem axk159_run : chkOut axk159 (run (envP Tryz.prog axk159_h) 100000 axk159.f axk159.args (addAll axk159.pre .nil) axk159.n) = true := by kernel_rfl
theorem axk160_ok : cutOk axk160 = true := by kernel_rfl
set_option maxRecDepth 1000000 in
theorem axk160_run : chkOut axk160 (run (envP Tryz.prog axk160_h) 100000 axk160.f axk160.args (addAll axk160.pre .nil) axk160.n) = true := by kernel_rfl
theorem axk161_ok : cutOk axk161 = true := by kernel_rfl
set_option maxRecDepth 1000000 in
theorem axk161_run : chkOut axk161 (run (envP Tryz.prog axk161_h) 100000 axk161.f axk161.args (addAll axk161.pre .nil) axk161.n) = true := by kernel_rfl
theorem axk162_ok : cutOk axk162 = true := by kernel_rfl
set_option maxRecDepth 1000000 in
theorem axk162_run : chkOut axk162 (run (envP Tryz.prog axk162_h) 100000 axk162.f axk162.args (addAll axk162.pre .nil) axk162.n) = true := by kernel_rfl
theorem axk163_ok : cutOk axk163 = true := by kernel_rfl
set_option maxRecDepth 1000000 in
theorem axk163_run : chkOut axk163 (run (envP Tryz.prog axk163_h) 100000 axk163.f axk163.args (addAll axk163.pre .nil) axk163.n) = true := by kernel_rfl
theorem axk164_ok : cutOk axk164 = true := by kernel_rfl
set_option maxRecDepth 1000000 in
theorem axk164_run : chkOut axk164 (run (envP Tryz.prog axk164_h) 100000 axk164.f axk164.args (addAll axk164.pre .nil) axk164.n) = true := by kernel_rfl
theorem axk165_ok : cutOk axk165 = true := by kernel_rfl
set_option maxRecDepth 1000000 in
theorem axk165_run : chkOut axk165 (run (envP Tryz.prog axk165_h) 100000 axk165.f axk165.args (addAll axk165.pre .nil) axk165.n) = true := by kernel_rfl
theorem axk166_ok : cutOk axk166 = true := by kernel_rfl
set_option maxRecDepth 1000000 in
theorem axk166_run : chkOut axk166 (run (envP Tryz.prog axk166_h) 100000 axk166.f axk166.args (addAll axk166.pre .nil) axk166.n) = true := by kernel_rfl
theorem axk167_ok : cutOk axk167 = true := by kernel_rfl
set_option maxRecDepth 1000000 in
theorem axk167_run : chkOut axk167 (run (envP Tryz.prog axk167_h) 100000 axk167.f axk167.args (addAll axk167.pre .nil) axk167.n) = true := by kernel_rfl
theorem axk168_ok : cutOk axk168 = true := by kernel_rfl
set_option maxRecDepth 1000000 in
theorem axk168_run : chkOut axk168 (run (envP Tryz.prog axk168_h) 100000 axk168.f axk168.args (addAll axk168.pre .nil) axk168.n) = true := by kernel_rfl
theorem axk169_ok : cutOk axk169 = true := by kernel_rfl
set_option maxRecDepth 1000000 in
theorem axk169_run : chkOut axk169 (run (envP Tryz.prog axk169_h) 100000 axk169.f axk169.args (addAll axk169.pre .nil) axk169.n) = true := by kernel_rfl
theorem axk170_ok : cutOk axk170 = true := by kernel_rfl
set_option maxRecDepth 1000000 in
theorem axk170_run : chkOut axk170 (run (envP Tryz.prog axk170_h) 100000 axk170.f axk170.args (addAll axk170.pre .nil) axk170.n) = true := by kernel_rfl
theorem axk171_ok : cutOk axk171 = true := by kernel_rfl
set_option maxRecDepth 1000000 in
theorem axk171_run : chkOut axk171 (run (envP Tryz.prog axk171_h) 100000 axk171.f axk171.args (addAll axk171.pre .nil) axk171.n) = true := by kernel_rfl
theorem axk172_ok : cutOk axk172 = true := by kernel_rfl
set_option maxRecDepth 1000000 in
theorem axk172_run : chkOut axk172 (run (envP Tryz.prog axk172_h) 100000 axk172.f axk172.args (addAll axk172.pre .nil) axk172.n) = true := by kernel_rfl
theorem axk173_ok : cutOk axk173 = true := by kernel_rfl
set_option maxRecDepth 1000000 in
theorem axk173_run : chkOut axk173 (run (envP Tryz.prog axk173_h) 100000 axk173.f axk173.args (addAll axk173.pre .nil) axk173.n) = true := by kernel_rfl
theorem axk174_ok : cutOk axk174 = true := by kernel_rfl
set_option maxRecDepth 1000000 in
theorem axk174_run : chkOut axk174 (run (envP Tryz.prog axk174_h) 100000 axk174.f axk174.args (addAll axk174.pre .nil) axk174.n) = true := by kernel_rfl
theorem axk175_ok : cutOk axk175 = true := by kernel_rfl
set_option maxRecDepth 1000000 in
theorem axk175_run : chkOut axk175 (run (envP Tryz.prog axk175_h) 100000 axk175.f axk175.args (addAll axk175.pre .nil) axk175.n) = true := by kernel_rfl
theorem axk176_ok : cutOk axk176 = true := by kernel_rfl
set_option maxRecDepth 1000000 in
theorem axk176_run : chkOut axk176 (run (envP Tryz.prog axk176_h) 100000 axk176.f axk176.args (addAll axk176.pre .nil) axk176.n) = true := by kernel_rfl
theorem axk177_ok : cutOk axk177 = true := by kernel_rfl
set_option maxRecDepth 1000000 in
theorem axk177_run : chkOut axk177 (run (envP Tryz.prog axk177_h) 100000 axk177.f axk177.args (addAll axk177.pre .nil) axk177.n) = true := by kernel_rfl
theorem axk178_ok : cutOk axk178 = true := by kernel_rfl
set_option maxRecDepth 1000000 in
theorem axk178_run : chkOut axk178 (run (envP Tryz.prog axk178_h) 100000 axk178.f axk178.args (addAll axk178.pre .nil) axk178.n) = true := by kernel_rfl
theorem axk179_ok : cutOk axk179 = true := by kernel_rfl
set_option maxRecDepth 1000000 in
theorem axk179_run : chkOut axk179 (run (envP Tryz.prog axk179_h) 100000 axk179.f axk179.args (addAll axk179.pre .nil) axk179.n) = true := by kernel_rfl
theorem axk180_ok : cutOk axk180 = true := by kernel_rfl
set_option maxRecDepth 1000000 in
theorem axk180_run : chkOut axk180 (run (envP Tryz.prog axk180_h) 100000 axk180.f axk180.args (addAll axk180.pre .nil) axk180.n) = true := by kernel_rfl
theorem axk181_ok : cutOk axk181 = true := by kernel_rfl
set_option maxRecDepth 1000000 in
theorem axk181_run : chkOut axk181 (run (envP Tryz.prog axk181_h) 100000 axk181.f axk181.args (addAll axk181.pre .nil) axk181.n) = true := by kernel_rfl
theorem axk182_ok : cutOk axk182 = true := by kernel_rfl
set_option maxRecDepth 1000000 in
theorem axk182_run : chkOut axk182 (run (envP Tryz.prog axk182_h) 100000 axk182.f axk182.args (addAll axk182.pre .nil) axk182.n) = true := by kernel_rfl
theorem axk183_ok : cutOk axk183 = true := by kernel_rfl
set_option maxRecDepth 1000000 in
theorem axk183_run : chkOut axk183 (run (envP Tryz.prog axk183_h) 100000 axk183.f axk183.args (addAll axk183.pre .nil) axk183.n) = true := by kernel_rfl
theorem axk184_ok : cutOk axk184 = true := by kernel_rfl
set_option maxRecDepth 1000000 in
theorem axk184_run : chkOut axk184 (run (envP Tryz.prog axk184_h) 100000 axk184.f axk184.args (addAll axk184.pre .nil) axk184.n) = true := by kernel_rfl
theorem axk185_ok : cutOk axk185 = true := by kernel_rfl
set_option maxRecDepth 1000000 in
theorem axk185_run : chkOut axk185 (run (envP Tryz.prog axk185_h) 100000 axk185.f axk185.args (addAll axk185.pre .nil) axk185.n) = true := by kernel_rfl
theorem axk186_ok : cutOk axk186 = true := by kernel_rfl
set_option maxRecDepth 1000000 in
theorem axk186_run : chkOut axk186 (run (envP Tryz.prog axk186_h) 100000 axk186.f axk186.args (addAll axk186.pre .nil) axk186.n) = true := by kernel_rfl
theorem axk187_ok : cutOk axk187 = true := by kernel_rfl
set_option maxRecDepth 1000000 in
theorem axk187_run : chkOut axk187 (run (envP Tryz.prog axk187_h) 100000 axk187.f axk187.args (addAll axk187.pre .nil) axk187.n) = true := by kernel_rfl
theorem axk188_ok : cutOk axk188 = true := by kernel_rfl
set_option maxRecDepth 1000000 in
theorem axk188_run : chkOut axk188 (run (envP Tryz.prog axk188_h) 100000 axk188.f axk188.args (addAll axk188.pre .nil) axk188.n) = true := by kernel_rfl
theorem axk189_ok : cutOk axk189 = true := by kernel_rfl
set_option maxRecDepth 1000000 in
theorem axk189_run : chkOut axk189 (run (envP Tryz.prog axk189_h) 100000 axk189.f axk189.args (addAll axk189.pre .nil) axk189.n) = true := by kernel_rfl
theorem axk190_ok : cutOk axk190 = true := by kernel_rfl
set_option maxRecDepth 1000000 in
theorem axk190_run : chkOut axk190 (run (envP Tryz.prog axk190_h) 100000 axk190.f axk190.args (addAll axk190.pre .nil) axk190.n) = true := by kernel_rfl
theorem axk191_ok : cutOk axk191 = true := by kernel_rfl
set_option maxRecDepth 1000000 in
theorem axk191_run : chkOut axk191 (run (envP Tryz.prog axk191_h) 100000 axk191.f axk191.args (addAll axk191.pre .nil) axk191.n) = true := by kernel_rfl
theorem axk192_ok : cutOk axk192 = true := by kernel_rfl
set_option maxRecDepth 1000000 in
theorem axk192_run : chkOut axk192 (run (envP Tryz.prog axk192_h) 100000 axk192.f axk192.args (addAll axk192.pre .nil) axk192.n) = true := by kernel_rfl
theorem axk193_ok : cutOk axk193 = true := by kernel_rfl
set_option maxRecDepth 1000000 in
theorem axk193_run : chkOut axk193 (run (envP Tryz.prog axk193_h) 100000 axk193.f axk193.args (addAll axk193.pre .nil) axk193.n) = true := by kernel_rfl
end Go.Proofs.YtnglahcjemgcaaaGreatDoor
