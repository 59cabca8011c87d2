/- What closed calls of this program answer (text 8). No condition. Printed by mkaw2.py. -/
import Derived.Test.YtcbcegdidlefiaaGreatK34
namespace Go.Proofs.YtcbcegdidlefiaaGreat
open Go.RowKit
set_option maxRecDepth 1000000
theorem awr100:CutRun Tryz.prog sqHook [aw98,aw99] aw100:=⟨by kernel_rfl,by kernel_rfl⟩
theorem awr101:CutRun Tryz.prog sqHook [aw100] aw101:=⟨by kernel_rfl,by kernel_rfl⟩
theorem awr102:CutRun Tryz.prog sqHook [aw97,aw101] aw102:=⟨by kernel_rfl,by kernel_rfl⟩
theorem awr103:CutRun Tryz.prog sqHook [aw92,aw94,aw96,aw102] aw103:=⟨by kernel_rfl,by kernel_rfl⟩
theorem awr104:CutRun Tryz.prog sqHook [] aw104:=⟨by kernel_rfl,by kernel_rfl⟩
theorem awr105:CutRun Tryz.prog sqHook [aw104] aw105:=⟨by kernel_rfl,by kernel_rfl⟩
theorem awr106:CutRun Tryz.prog sqHook [] aw106:=⟨by kernel_rfl,by kernel_rfl⟩
theorem awr107:CutRun Tryz.prog sqHook [aw106] aw107:=⟨by kernel_rfl,by kernel_rfl⟩
end Go.Proofs.YtcbcegdidlefiaaGreat
