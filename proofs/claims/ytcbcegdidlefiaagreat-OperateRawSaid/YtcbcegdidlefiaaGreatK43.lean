/- What closed calls of this program answer (text 9). No condition. Printed by mkaw2.py. -/
import Derived.Test.YtcbcegdidlefiaaGreatK34
namespace Go.Proofs.YtcbcegdidlefiaaGreat
open Go.RowKit
set_option maxRecDepth 1000000
theorem awr108:CutRun Tryz.prog sqHook [aw105,aw107] aw108:=⟨by kernel_rfl,by kernel_rfl⟩
theorem awr109:CutRun Tryz.prog sqHook [] aw109:=⟨by kernel_rfl,by kernel_rfl⟩
end Go.Proofs.YtcbcegdidlefiaaGreat
