/- What closed calls of this program answer (text 1). No condition. Printed by mkaw2.py. -/
import Derived.Test.YtcbcegdidlefiaaGreatK34
namespace Go.Proofs.YtcbcegdidlefiaaGreat
open Go.RowKit
set_option maxRecDepth 1000000
theorem awr0:CutRun Tryz.prog sqHook [] aw0:=⟨by kernel_rfl,by kernel_rfl⟩
theorem awr1:CutRun Tryz.prog sqHook [] aw1:=⟨by kernel_rfl,by kernel_rfl⟩
theorem awr2:CutRun Tryz.prog sqHook [] aw2:=⟨by kernel_rfl,by kernel_rfl⟩
theorem awr3:CutRun Tryz.prog sqHook [aw0,aw1,aw2] aw3:=⟨by kernel_rfl,by kernel_rfl⟩
theorem awr4:CutRun Tryz.prog sqHook [aw3] aw4:=⟨by kernel_rfl,by kernel_rfl⟩
theorem awr5:CutRun Tryz.prog sqHook [] aw5:=⟨by kernel_rfl,by kernel_rfl⟩
theorem awr6:CutRun Tryz.prog sqHook [aw5] aw6:=⟨by kernel_rfl,by kernel_rfl⟩
theorem awr7:CutRun Tryz.prog sqHook [] aw7:=⟨by kernel_rfl,by kernel_rfl⟩
end Go.Proofs.YtcbcegdidlefiaaGreat
