/- What closed calls of this program answer (text 2). No condition. Printed by mkaw2.py. -/
import Derived.Test.YtcbcegdidlefiaaGreatK34
namespace Go.Proofs.YtcbcegdidlefiaaGreat
open Go.RowKit
set_option maxRecDepth 1000000
theorem awr8:CutRun Tryz.prog sqHook [aw7] aw8:=⟨by kernel_rfl,by kernel_rfl⟩
theorem awr9:CutRun Tryz.prog sqHook [] aw9:=⟨by kernel_rfl,by kernel_rfl⟩
theorem awr10:CutRun Tryz.prog sqHook [] aw10:=⟨by kernel_rfl,by kernel_rfl⟩
theorem awr11:CutRun Tryz.prog sqHook [] aw11:=⟨by kernel_rfl,by kernel_rfl⟩
theorem awr12:CutRun Tryz.prog sqHook [] aw12:=⟨by kernel_rfl,by kernel_rfl⟩
theorem awr13:CutRun Tryz.prog sqHook [] aw13:=⟨by kernel_rfl,by kernel_rfl⟩
theorem awr14:CutRun Tryz.prog sqHook [] aw14:=⟨by kernel_rfl,by kernel_rfl⟩
theorem awr15:CutRun Tryz.prog sqHook [] aw15:=⟨by kernel_rfl,by kernel_rfl⟩
theorem awr16:CutRun Tryz.prog sqHook [] aw16:=⟨by kernel_rfl,by kernel_rfl⟩
theorem awr17:CutRun Tryz.prog sqHook [] aw17:=⟨by kernel_rfl,by kernel_rfl⟩
theorem awr18:CutRun Tryz.prog sqHook [] aw18:=⟨by kernel_rfl,by kernel_rfl⟩
theorem awr19:CutRun Tryz.prog sqHook [] aw19:=⟨by kernel_rfl,by kernel_rfl⟩
theorem awr20:CutRun Tryz.prog sqHook [] aw20:=⟨by kernel_rfl,by kernel_rfl⟩
theorem awr21:CutRun Tryz.prog sqHook [] aw21:=⟨by kernel_rfl,by kernel_rfl⟩
theorem awr22:CutRun Tryz.prog sqHook [] aw22:=⟨by kernel_rfl,by kernel_rfl⟩
theorem awr23:CutRun Tryz.prog sqHook [] aw23:=⟨by kernel_rfl,by kernel_rfl⟩
theorem awr24:CutRun Tryz.prog sqHook [] aw24:=⟨by kernel_rfl,by kernel_rfl⟩
theorem awr25:CutRun Tryz.prog sqHook [] aw25:=⟨by kernel_rfl,by kernel_rfl⟩
theorem awr26:CutRun Tryz.prog sqHook [] aw26:=⟨by kernel_rfl,by kernel_rfl⟩
theorem awr27:CutRun Tryz.prog sqHook [] aw27:=⟨by kernel_rfl,by kernel_rfl⟩
theorem awr28:CutRun Tryz.prog sqHook [] aw28:=⟨by kernel_rfl,by kernel_rfl⟩
theorem awr29:CutRun Tryz.prog sqHook [] aw29:=⟨by kernel_rfl,by kernel_rfl⟩
theorem awr30:CutRun Tryz.prog sqHook [] aw30:=⟨by kernel_rfl,by kernel_rfl⟩
theorem awr31:CutRun Tryz.prog sqHook [] aw31:=⟨by kernel_rfl,by kernel_rfl⟩
theorem awr32:CutRun Tryz.prog sqHook [] aw32:=⟨by kernel_rfl,by kernel_rfl⟩
theorem awr33:CutRun Tryz.prog sqHook [] aw33:=⟨by kernel_rfl,by kernel_rfl⟩
theorem awr34:CutRun Tryz.prog sqHook [] aw34:=⟨by kernel_rfl,by kernel_rfl⟩
theorem awr35:CutRun Tryz.prog sqHook [] aw35:=⟨by kernel_rfl,by kernel_rfl⟩
theorem awr36:CutRun Tryz.prog sqHook [] aw36:=⟨by kernel_rfl,by kernel_rfl⟩
theorem awr37:CutRun Tryz.prog sqHook [] aw37:=⟨by kernel_rfl,by kernel_rfl⟩
theorem awr38:CutRun Tryz.prog sqHook [] aw38:=⟨by kernel_rfl,by kernel_rfl⟩
theorem awr39:CutRun Tryz.prog sqHook [] aw39:=⟨by kernel_rfl,by kernel_rfl⟩
end Go.Proofs.YtcbcegdidlefiaaGreat
