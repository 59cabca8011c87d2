/- What closed calls of this program answer (text 3). No condition. Printed by mkaw2.py. -/
import Derived.Test.YtcbcegdidlefiaaGreatK34
namespace Go.Proofs.YtcbcegdidlefiaaGreat
open Go.RowKit
set_option maxRecDepth 1000000
theorem awr40:CutRun Tryz.prog sqHook [] aw40:=⟨by kernel_rfl,by kernel_rfl⟩
theorem awr41:CutRun Tryz.prog sqHook [] aw41:=⟨by kernel_rfl,by kernel_rfl⟩
theorem awr42:CutRun Tryz.prog sqHook [] aw42:=⟨by kernel_rfl,by kernel_rfl⟩
theorem awr43:CutRun Tryz.prog sqHook [] aw43:=⟨by kernel_rfl,by kernel_rfl⟩
theorem awr44:CutRun Tryz.prog sqHook [] aw44:=⟨by kernel_rfl,by kernel_rfl⟩
theorem awr45:CutRun Tryz.prog sqHook [] aw45:=⟨by kernel_rfl,by kernel_rfl⟩
theorem awr46:CutRun Tryz.prog sqHook [] aw46:=⟨by kernel_rfl,by kernel_rfl⟩
theorem awr47:CutRun Tryz.prog sqHook [] aw47:=⟨by kernel_rfl,by kernel_rfl⟩
theorem awr48:CutRun Tryz.prog sqHook [] aw48:=⟨by kernel_rfl,by kernel_rfl⟩
theorem awr49:CutRun Tryz.prog sqHook [] aw49:=⟨by kernel_rfl,by kernel_rfl⟩
theorem awr50:CutRun Tryz.prog sqHook [] aw50:=⟨by kernel_rfl,by kernel_rfl⟩
theorem awr51:CutRun Tryz.prog sqHook [] aw51:=⟨by kernel_rfl,by kernel_rfl⟩
theorem awr52:CutRun Tryz.prog sqHook [] aw52:=⟨by kernel_rfl,by kernel_rfl⟩
theorem awr53:CutRun Tryz.prog sqHook [] aw53:=⟨by kernel_rfl,by kernel_rfl⟩
theorem awr54:CutRun Tryz.prog sqHook [] aw54:=⟨by kernel_rfl,by kernel_rfl⟩
theorem awr55:CutRun Tryz.prog sqHook [] aw55:=⟨by kernel_rfl,by kernel_rfl⟩
theorem awr56:CutRun Tryz.prog sqHook [] aw56:=⟨by kernel_rfl,by kernel_rfl⟩
theorem awr57:CutRun Tryz.prog sqHook [] aw57:=⟨by kernel_rfl,by kernel_rfl⟩
theorem awr58:CutRun Tryz.prog sqHook [] aw58:=⟨by kernel_rfl,by kernel_rfl⟩
theorem awr59:CutRun Tryz.prog sqHook [] aw59:=⟨by kernel_rfl,by kernel_rfl⟩
theorem awr60:CutRun Tryz.prog sqHook [] aw60:=⟨by kernel_rfl,by kernel_rfl⟩
theorem awr61:CutRun Tryz.prog sqHook [] aw61:=⟨by kernel_rfl,by kernel_rfl⟩
theorem awr62:CutRun Tryz.prog sqHook [] aw62:=⟨by kernel_rfl,by kernel_rfl⟩
theorem awr63:CutRun Tryz.prog sqHook [] aw63:=⟨by kernel_rfl,by kernel_rfl⟩
theorem awr64:CutRun Tryz.prog sqHook [] aw64:=⟨by kernel_rfl,by kernel_rfl⟩
theorem awr65:CutRun Tryz.prog sqHook [] aw65:=⟨by kernel_rfl,by kernel_rfl⟩
theorem awr66:CutRun Tryz.prog sqHook [] aw66:=⟨by kernel_rfl,by kernel_rfl⟩
theorem awr67:CutRun Tryz.prog sqHook [] aw67:=⟨by kernel_rfl,by kernel_rfl⟩
theorem awr68:CutRun Tryz.prog sqHook [] aw68:=⟨by kernel_rfl,by kernel_rfl⟩
theorem awr69:CutRun Tryz.prog sqHook [] aw69:=⟨by kernel_rfl,by kernel_rfl⟩
theorem awr70:CutRun Tryz.prog sqHook [] aw70:=⟨by kernel_rfl,by kernel_rfl⟩
theorem awr71:CutRun Tryz.prog sqHook [] aw71:=⟨by kernel_rfl,by kernel_rfl⟩
theorem awr72:CutRun Tryz.prog sqHook [] aw72:=⟨by kernel_rfl,by kernel_rfl⟩
theorem awr73:CutRun Tryz.prog sqHook [] aw73:=⟨by kernel_rfl,by kernel_rfl⟩
theorem awr74:CutRun Tryz.prog sqHook [] aw74:=⟨by kernel_rfl,by kernel_rfl⟩
theorem awr75:CutRun Tryz.prog sqHook [] aw75:=⟨by kernel_rfl,by kernel_rfl⟩
theorem awr76:CutRun Tryz.prog sqHook [] aw76:=⟨by kernel_rfl,by kernel_rfl⟩
theorem awr77:CutRun Tryz.prog sqHook [] aw77:=⟨by kernel_rfl,by kernel_rfl⟩
theorem awr78:CutRun Tryz.prog sqHook [] aw78:=⟨by kernel_rfl,by kernel_rfl⟩
theorem awr79:CutRun Tryz.prog sqHook [] aw79:=⟨by kernel_rfl,by kernel_rfl⟩
theorem awr80:CutRun Tryz.prog sqHook [] aw80:=⟨by kernel_rfl,by kernel_rfl⟩
theorem awr81:CutRun Tryz.prog sqHook [] aw81:=⟨by kernel_rfl,by kernel_rfl⟩
theorem awr82:CutRun Tryz.prog sqHook [] aw82:=⟨by kernel_rfl,by kernel_rfl⟩
theorem awr83:CutRun Tryz.prog sqHook [] aw83:=⟨by kernel_rfl,by kernel_rfl⟩
theorem awr84:CutRun Tryz.prog sqHook [] aw84:=⟨by kernel_rfl,by kernel_rfl⟩
theorem awr85:CutRun Tryz.prog sqHook [] aw85:=⟨by kernel_rfl,by kernel_rfl⟩
theorem awr86:CutRun Tryz.prog sqHook [] aw86:=⟨by kernel_rfl,by kernel_rfl⟩
theorem awr87:CutRun Tryz.prog sqHook [] aw87:=⟨by kernel_rfl,by kernel_rfl⟩
end Go.Proofs.YtcbcegdidlefiaaGreat
