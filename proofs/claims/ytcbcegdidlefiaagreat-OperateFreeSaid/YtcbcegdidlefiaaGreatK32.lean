/- What closed calls of this program answer (text 8). No condition. Printed by mkaw.py. -/
import Derived.Test.YtcbcegdidlefiaaGreatK24
namespace Go.Proofs.YtcbcegdidlefiaaGreat
open Go.RowKit

theorem awk158_ok : cutOk awk158 = true := by kernel_rfl
set_option maxRecDepth 1000000 in
theorem awk158_run : chkOut awk158 (run (envP Tryz.prog awk158_h) 100000 awk158.f awk158.args (addAll awk158.pre .nil) awk158.n) = true := by kernel_rfl
theorem awk159_ok : cutOk awk159 = true := by kernel_rfl
set_option maxRecDepth 1000000 in
theorem awk159_run : chkOut awk159 (run (envP Tryz.prog awk159_h) 100000 awk159.f awk159.args (addAll awk159.pre .nil) awk159.n) = true := by kernel_rfl
theorem awk160_ok : cutOk awk160 = true := by kernel_rfl
set_option maxRecDepth 1000000 in
theorem awk160_run : chkOut awk160 (run (envP Tryz.prog awk160_h) 100000 awk160.f awk160.args (addAll awk160.pre .nil) awk160.n) = true := by kernel_rfl
theorem awk161_ok : cutOk awk161 = true := by kernel_rfl
set_option maxRecDepth 1000000 in
theorem awk161_run : chkOut awk161 (run (envP Tryz.prog awk161_h) 100000 awk161.f awk161.args (addAll awk161.pre .nil) awk161.n) = true := by kernel_rfl
theorem awk162_ok : cutOk awk162 = true := by kernel_rfl
set_option maxRecDepth 1000000 in
theorem awk162_run : chkOut awk162 (run (envP Tryz.prog awk162_h) 100000 awk162.f awk162.args (addAll awk162.pre .nil) awk162.n) = true := by kernel_rfl
theorem awk163_ok : cutOk awk163 = true := by kernel_rfl
set_option maxRecDepth 1000000 in
theorem awk163_run : chkOut awk163 (run (envP Tryz.prog awk163_h) 100000 awk163.f awk163.args (addAll awk163.pre .nil) awk163.n) = true := by kernel_rfl
theorem awk164_ok : cutOk awk164 = true := by kernel_rfl
set_option maxRecDepth 1000000 in
theorem awk164_run : chkOut awk164 (run (envP Tryz.prog awk164_h) 100000 awk164.f awk164.args (addAll awk164.pre .nil) awk164.n) = true := by kernel_rfl
theorem awk165_ok : cutOk awk165 = true := by kernel_rfl
set_option maxRecDepth 1000000 in
theorem awk165_run : chkOut awk165 (run (envP Tryz.prog awk165_h) 100000 awk165.f awk165.args (addAll awk165.pre .nil) awk165.n) = true := by kernel_rfl
theorem awk166_ok : cutOk awk166 = true := by kernel_rfl
set_option maxRecDepth 1000000 in
theorem awk166_run : chkOut awk166 (run (envP Tryz.prog awk166_h) 100000 awk166.f awk166.args (addAll awk166.pre .nil) awk166.n) = true := by kernel_rfl
theorem awk167_ok : cutOk awk167 = true := by kernel_rfl
set_option maxRecDepth 1000000 in
theorem awk167_run : chkOut awk167 (run (envP Tryz.prog awk167_h) 100000 awk167.f awk167.args (addAll awk167.pre .nil) awk167.n) = true := by kernel_rfl
theorem awk168_ok : cutOk awk168 = true := by kernel_rfl
set_option maxRecDepth 1000000 in
theorem awk168_run : chkOut awk168 (run (envP Tryz.prog awk168_h) 100000 awk168.f awk168.args (addAll awk168.pre .nil) awk168.n) = true := by kernel_rfl
theorem awk169_ok : cutOk awk169 = true := by kernel_rfl
set_option maxRecDepth 1000000 in
theorem awk169_run : chkOut awk169 (run (envP Tryz.prog awk169_h) 100000 awk169.f awk169.args (addAll awk169.pre .nil) awk169.n) = true := by kernel_rfl
theorem awk170_ok : cutOk awk170 = true := by kernel_rfl
set_option maxRecDepth 1000000 in
theorem awk170_run : chkOut awk170 (run (envP Tryz.prog awk170_h) 100000 awk170.f awk170.args (addAll awk170.pre .nil) awk170.n) = true := by kernel_rfl
theorem awk171_ok : cutOk awk171 = true := by kernel_rfl
set_option maxRecDepth 1000000 in
theorem awk171_run : chkOut awk171 (run (envP Tryz.prog awk171_h) 100000 awk171.f awk171.args (addAll awk171.pre .nil) awk171.n) = true := by kernel_rfl
theorem awk172_ok : cutOk awk172 = true := by kernel_rfl
set_option maxRecDepth 1000000 in
theorem awk172_run : chkOut awk172 (run (envP Tryz.prog awk172_h) 100000 awk172.f awk172.args (addAll awk172.pre .nil) awk172.n) = true := by kernel_rfl
theorem awk173_ok : cutOk awk173 = true := by kernel_rfl
set_option maxRecDepth 1000000 in
theorem awk173_run : chkOut awk173 (run (envP Tryz.prog awk173_h) 100000 awk173.f awk173.args (addAll awk173.pre .nil) awk173.n) = true := by kernel_rfl
theorem awk174_ok : cutOk awk174 = true := by kernel_rfl
set_option maxRecDepth 1000000 in
theorem awk174_run : chkOut awk174 (run (envP Tryz.prog awk174_h) 100000 awk174.f awk174.args (addAll awk174.pre .nil) awk174.n) = true := by kernel_rfl
theorem awk175_ok : cutOk awk175 = true := by kernel_rfl
set_option maxRecDepth 1000000 in
theorem awk175_run : chkOut awk175 (run (envP Tryz.prog awk175_h) 100000 awk175.f awk175.args (addAll awk175.pre .nil) awk175.n) = true := by kernel_rfl
theorem awk176_ok : cutOk awk176 = true := by kernel_rfl
set_option maxRecDepth 1000000 in
theorem awk176_run : chkOut awk176 (run (envP Tryz.prog awk176_h) 100000 awk176.f awk176.args (addAll awk176.pre .nil) awk176.n) = true := by kernel_rfl
theorem awk177_ok : cutOk awk177 = true := by kernel_rfl
set_option maxRecDepth 1000000 in
theorem awk177_run : chkOut awk177 (run (envP Tryz.prog awk177_h) 100000 awk177.f awk177.args (addAll awk177.pre .nil) awk177.n) = true := by kernel_rfl
theorem awk178_ok : cutOk awk178 = true := by kernel_rfl
set_option maxRecDepth 1000000 in
theorem awk178_run : chkOut awk178 (run (envP Tryz.prog awk178_h) 100000 awk178.f awk178.args (addAll awk178.pre .nil) awk178.n) = true := by kernel_rfl
theorem awk179_ok : cutOk awk179 = true := by kernel_rfl
set_option maxRecDepth 1000000 in
theorem awk179_run : chkOut awk179 (run (envP Tryz.prog awk179_h) 100000 awk179.f awk179.args (addAll awk179.pre .nil) awk179.n) = true := by kernel_rfl
theorem awk180_ok : cutOk awk180 = true := by kernel_rfl
set_option maxRecDepth 1000000 in
theorem awk180_run : chkOut awk180 (run (envP Tryz.prog awk180_h) 100000 awk180.f awk180.args (addAll awk180.pre .nil) awk180.n) = true := by kernel_rfl
theorem awk181_ok : cutOk awk181 = true := by kernel_rfl
set_option maxRecDepth 1000000 in
theorem awk181_run : chkOut awk181 (run (envP Tryz.prog awk181_h) 100000 awk181.f awk181.args (addAll awk181.pre .nil) awk181.n) = true := by kernel_rfl
theorem awk182_ok : cutOk awk182 = true := by kernel_rfl
set_option maxRecDepth 1000000 in
theorem awk182_run : chkOut awk182 (run (envP Tryz.prog awk182_h) 100000 awk182.f awk182.args (addAll awk182.pre .nil) awk182.n) = true := by kernel_rfl
theorem awk183_ok : cutOk awk183 = true := by kernel_rfl
set_option maxRecDepth 1000000 in
theorem awk183_run : chkOut awk183 (run (envP Tryz.prog awk183_h) 100000 awk183.f awk183.args (addAll awk183.pre .nil) awk183.n) = true := by kernel_rfl
theorem awk184_ok : cutOk awk184 = true := by kernel_rfl
set_option maxRecDepth 1000000 in
theorem awk184_run : chkOut awk184 (run (envP Tryz.prog awk184_h) 100000 awk184.f awk184.args (addAll awk184.pre .nil) awk184.n) = true := by kernel_rfl
theorem awk185_ok : cutOk awk185 = true := by kernel_rfl
set_option maxRecDepth 1000000 in
theorem awk185_run : chkOut awk185 (run (envP Tryz.prog awk185_h) 100000 awk185.f awk185.args (addAll awk185.pre .nil) awk185.n) = true := by kernel_rfl
theorem awk186_ok : cutOk awk186 = true := by kernel_rfl
set_option maxRecDepth 1000000 in
theorem awk186_run : chkOut awk186 (run (envP Tryz.prog awk186_h) 100000 awk186.f awk186.args (addAll awk186.pre .nil) awk186.n) = true := by kernel_rfl
theorem awk187_ok : cutOk awk187 = true := by kernel_rfl
set_option maxRecDepth 1000000 in
theorem awk187_run : chkOut awk187 (run (envP Tryz.prog awk187_h) 100000 awk187.f awk187.args (addAll awk187.pre .nil) awk187.n) = true := by kernel_rfl
theorem awk188_ok : cutOk awk188 = true := by kernel_rfl
set_option maxRecDepth 1000000 in
theorem awk188_run : chkOut awk188 (run (envP Tryz.prog awk188_h) 100000 awk188.f awk188.args (addAll awk188.pre .nil) awk188.n) = true := by kernel_rfl
theorem awk189_ok : cutOk awk189 = true := by kernel_rfl
set_option maxRecDepth 1000000 in
theorem awk189_run : chkOut awk189 (run (envP Tryz.prog awk189_h) 100000 awk189.f awk189.args (addAll awk189.pre .nil) awk189.n) = true := by kernel_rfl
theorem awk190_ok : cutOk awk190 = true := by kernel_rfl
set_option maxRecDepth 1000000 in
theorem awk190_run : chkOut awk190 (run (envP Tryz.prog awk190_h) 100000 awk190.f awk190.args (addAll awk190.pre .nil) awk190.n) = true := by kernel_rfl
theorem awk191_ok : cutOk awk191 = true := by kernel_rfl
set_option maxRecDepth 1000000 in
theorem awk191_run : chkOut awk191 (run (envP Tryz.prog awk191_h) 100000 awk191.f awk191.args (addAll awk191.pre .nil) awk191.n) = true := by kernel_rfl
theorem awk192_ok : cutOk awk192 = true := by kernel_rfl
set_option maxRecDepth 1000000 in
theorem awk192_run : chkOut awk192 (run (envP Tryz.prog awk192_h) 100000 awk192.f awk192.args (addAll awk192.pre .nil) awk192.n) = true := by kernel_rfl
theorem awk193_ok : cutOk awk193 = true := by kernel_rfl
set_option maxRecDepth 1000000 in
theorem awk193_run : chkOut awk193 (run (envP Tryz.prog awk193_h) 100000 awk193.f awk193.args (addAll awk193.pre .nil) awk193.n) = true := by kernel_rfl
theorem awk194_ok : cutOk awk194 = true := by kernel_rfl
set_option maxRecDepth 1000000 in
theorem awk194_run : chkOut awk194 (run (envP Tryz.prog awk194_h) 100000 awk194.f awk194.args (addAll awk194.pre .nil) awk194.n) = true := by kernel_rfl
end Go.Proofs.YtcbcegdidlefiaaGreat
