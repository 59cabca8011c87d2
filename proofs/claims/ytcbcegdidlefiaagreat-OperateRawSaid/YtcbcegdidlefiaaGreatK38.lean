/- What closed calls of this program answer (text 4). No condition. Printed by mkaw2.py. -/
import Derived.Test.YtcbcegdidlefiaaGreatK34
namespace Go.Proofs.YtcbcegdidlefiaaGreat
open Go.RowKit
set_option maxRecDepth 1000000
theorem awr88:CutRun Tryz.prog sqHook [] aw88:=⟨by kernel_rfl,by kernel_rfl⟩
theorem awr89:CutRun Tryz.prog sqHook [aw10,aw11,aw12,aw13,aw14,aw15,aw16,aw17,aw18,aw19,aw20,aw21,aw22,aw23,aw24,aw25,aw26,aw27,aw28,aw29,aw30,aw31,aw32,aw33,aw34,aw35,aw36,aw37,aw38,aw39,aw40,aw41,aw42,aw43,aw44,aw45,aw46,aw47,aw48,aw49,aw50,aw51,aw52,aw53,aw54,aw55,aw56,aw57,aw58,aw59,aw60,aw61,aw62,aw63,aw64,aw65,aw66,aw67,aw68,aw69,aw70,aw71,aw72,aw73,aw74,aw75,aw76,aw77,aw78,aw79,aw80,aw81,aw82,aw83,aw84,aw85,aw86,aw87,aw88] aw89:=⟨by kernel_rfl,by kernel_rfl⟩
end Go.Proofs.YtcbcegdidlefiaaGreat
