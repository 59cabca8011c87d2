/- What closed calls of this program answer (text 5). No condition. Printed by mkaw2.py. -/
import Derived.Test.YtcbcegdidlefiaaGreatK34
namespace Go.Proofs.YtcbcegdidlefiaaGreat
open Go.RowKit
set_option maxRecDepth 1000000
theorem awr90:CutRun Tryz.prog sqHook [aw89] aw90:=⟨by kernel_rfl,by kernel_rfl⟩
theorem awr91:CutRun Tryz.prog sqHook [aw8,aw9,aw90] aw91:=⟨by kernel_rfl,by kernel_rfl⟩
theorem awr92:CutRun Tryz.prog sqHook [] aw92:=⟨by kernel_rfl,by kernel_rfl⟩
theorem awr93:CutRun Tryz.prog sqHook [] aw93:=⟨by kernel_rfl,by kernel_rfl⟩
theorem awr94:CutRun Tryz.prog sqHook [aw93] aw94:=⟨by kernel_rfl,by kernel_rfl⟩
theorem awr95:CutRun Tryz.prog sqHook [] aw95:=⟨by kernel_rfl,by kernel_rfl⟩
theorem awr96:CutRun Tryz.prog sqHook [aw95] aw96:=⟨by kernel_rfl,by kernel_rfl⟩
theorem awr97:CutRun Tryz.prog sqHook [] aw97:=⟨by kernel_rfl,by kernel_rfl⟩
end Go.Proofs.YtcbcegdidlefiaaGreat
