/- What closed calls of this program answer (text 11). No condition. Printed by mkaw2.py. -/
import Derived.Test.YtcbcegdidlefiaaGreatK34
namespace Go.Proofs.YtcbcegdidlefiaaGreat
open Go.RowKit
set_option maxRecDepth 1000000
theorem awr111:CutRun Tryz.prog sqHook [] aw111:=⟨by kernel_rfl,by kernel_rfl⟩
theorem awr112:CutRun Tryz.prog sqHook [aw4,aw6,aw91,aw103,aw108,aw110,aw111] aw112:=⟨by kernel_rfl,by kernel_rfl⟩
end Go.Proofs.YtcbcegdidlefiaaGreat
