/- What closed calls of this program answer, put together. No condition. Printed by mkaw2.py. -/
import Derived.Test.YtcbcegdidlefiaaGreatK35
import Derived.Test.YtcbcegdidlefiaaGreatK36
import Derived.Test.YtcbcegdidlefiaaGreatK37
import Derived.Test.YtcbcegdidlefiaaGreatK38
import Derived.Test.YtcbcegdidlefiaaGreatK39
import Derived.Test.YtcbcegdidlefiaaGreatK40
import Derived.Test.YtcbcegdidlefiaaGreatK41
import Derived.Test.YtcbcegdidlefiaaGreatK42
import Derived.Test.YtcbcegdidlefiaaGreatK43
import Derived.Test.YtcbcegdidlefiaaGreatK44
import Derived.Test.YtcbcegdidlefiaaGreatK45
namespace Go.Proofs.YtcbcegdidlefiaaGreat
open Go.RowKit
theorem awg0:CutGd Tryz.prog sqHook aw0:= .mk (by simp) awr0
theorem awg1:CutGd Tryz.prog sqHook aw1:= .mk (by simp) awr1
theorem awg2:CutGd Tryz.prog sqHook aw2:= .mk (by simp) awr2
theorem awg3:CutGd Tryz.prog sqHook aw3:= .mk (fun d h=>by simp at h;rcases h with rfl|rfl|rfl<;>first|exact awg0|exact awg1|exact awg2) awr3
theorem awg4:CutGd Tryz.prog sqHook aw4:= .mk (fun d h=>by simp at h;subst h;exact awg3) awr4
theorem awg5:CutGd Tryz.prog sqHook aw5:= .mk (by simp) awr5
theorem awg6:CutGd Tryz.prog sqHook aw6:= .mk (fun d h=>by simp at h;subst h;exact awg5) awr6
theorem awg7:CutGd Tryz.prog sqHook aw7:= .mk (by simp) awr7
theorem awg8:CutGd Tryz.prog sqHook aw8:= .mk (fun d h=>by simp at h;subst h;exact awg7) awr8
theorem awg9:CutGd Tryz.prog sqHook aw9:= .mk (by simp) awr9
theorem awg10:CutGd Tryz.prog sqHook aw10:= .mk (by simp) awr10
theorem awg11:CutGd Tryz.prog sqHook aw11:= .mk (by simp) awr11
theorem awg12:CutGd Tryz.prog sqHook aw12:= .mk (by simp) awr12
theorem awg13:CutGd Tryz.prog sqHook aw13:= .mk (by simp) awr13
theorem awg14:CutGd Tryz.prog sqHook aw14:= .mk (by simp) awr14
theorem awg15:CutGd Tryz.prog sqHook aw15:= .mk (by simp) awr15
theorem awg16:CutGd Tryz.prog sqHook aw16:= .mk (by simp) awr16
theorem awg17:CutGd Tryz.prog sqHook aw17:= .mk (by simp) awr17
theorem awg18:CutGd Tryz.prog sqHook aw18:= .mk (by simp) awr18
theorem awg19:CutGd Tryz.prog sqHook aw19:= .mk (by simp) awr19
theorem awg20:CutGd Tryz.prog sqHook aw20:= .mk (by simp) awr20
theorem awg21:CutGd Tryz.prog sqHook aw21:= .mk (by simp) awr21
theorem awg22:CutGd Tryz.prog sqHook aw22:= .mk (by simp) awr22
theorem awg23:CutGd Tryz.prog sqHook aw23:= .mk (by simp) awr23
theorem awg24:CutGd Tryz.prog sqHook aw24:= .mk (by simp) awr24
theorem awg25:CutGd Tryz.prog sqHook aw25:= .mk (by simp) awr25
theorem awg26:CutGd Tryz.prog sqHook aw26:= .mk (by simp) awr26
theorem awg27:CutGd Tryz.prog sqHook aw27:= .mk (by simp) awr27
theorem awg28:CutGd Tryz.prog sqHook aw28:= .mk (by simp) awr28
theorem awg29:CutGd Tryz.prog sqHook aw29:= .mk (by simp) awr29
theorem awg30:CutGd Tryz.prog sqHook aw30:= .mk (by simp) awr30
theorem awg31:CutGd Tryz.prog sqHook aw31:= .mk (by simp) awr31
theorem awg32:CutGd Tryz.prog sqHook aw32:= .mk (by simp) awr32
theorem awg33:CutGd Tryz.prog sqHook aw33:= .mk (by simp) awr33
theorem awg34:CutGd Tryz.prog sqHook aw34:= .mk (by simp) awr34
theorem awg35:CutGd Tryz.prog sqHook aw35:= .mk (by simp) awr35
theorem awg36:CutGd Tryz.prog sqHook aw36:= .mk (by simp) awr36
theorem awg37:CutGd Tryz.prog sqHook aw37:= .mk (by simp) awr37
theorem awg38:CutGd Tryz.prog sqHook aw38:= .mk (by simp) awr38
theorem awg39:CutGd Tryz.prog sqHook aw39:= .mk (by simp) awr39
theorem awg40:CutGd Tryz.prog sqHook aw40:= .mk (by simp) awr40
theorem awg41:CutGd Tryz.prog sqHook aw41:= .mk (by simp) awr41
theorem awg42:CutGd Tryz.prog sqHook aw42:= .mk (by simp) awr42
theorem awg43:CutGd Tryz.prog sqHook aw43:= .mk (by simp) awr43
theorem awg44:CutGd Tryz.prog sqHook aw44:= .mk (by simp) awr44
theorem awg45:CutGd Tryz.prog sqHook aw45:= .mk (by simp) awr45
theorem awg46:CutGd Tryz.prog sqHook aw46:= .mk (by simp) awr46
theorem awg47:CutGd Tryz.prog sqHook aw47:= .mk (by simp) awr47
theorem awg48:CutGd Tryz.prog sqHook aw48:= .mk (by simp) awr48
theorem awg49:CutGd Tryz.prog sqHook aw49:= .mk (by simp) awr49
theorem awg50:CutGd Tryz.prog sqHook aw50:= .mk (by simp) awr50
theorem awg51:CutGd Tryz.prog sqHook aw51:= .mk (by simp) awr51
theorem awg52:CutGd Tryz.prog sqHook aw52:= .mk (by simp) awr52
theorem awg53:CutGd Tryz.prog sqHook aw53:= .mk (by simp) awr53
theorem awg54:CutGd Tryz.prog sqHook aw54:= .mk (by simp) awr54
theorem awg55:CutGd Tryz.prog sqHook aw55:= .mk (by simp) awr55
theorem awg56:CutGd Tryz.prog sqHook aw56:= .mk (by simp) awr56
theorem awg57:CutGd Tryz.prog sqHook aw57:= .mk (by simp) awr57
theorem awg58:CutGd Tryz.prog sqHook aw58:= .mk (by simp) awr58
theorem awg59:CutGd Tryz.prog sqHook aw59:= .mk (by simp) awr59
theorem awg60:CutGd Tryz.prog sqHook aw60:= .mk (by simp) awr60
theorem awg61:CutGd Tryz.prog sqHook aw61:= .mk (by simp) awr61
theorem awg62:CutGd Tryz.prog sqHook aw62:= .mk (by simp) awr62
theorem awg63:CutGd Tryz.prog sqHook aw63:= .mk (by simp) awr63
theorem awg64:CutGd Tryz.prog sqHook aw64:= .mk (by simp) awr64
theorem awg65:CutGd Tryz.prog sqHook aw65:= .mk (by simp) awr65
theorem awg66:CutGd Tryz.prog sqHook aw66:= .mk (by simp) awr66
theorem awg67:CutGd Tryz.prog sqHook aw67:= .mk (by simp) awr67
theorem awg68:CutGd Tryz.prog sqHook aw68:= .mk (by simp) awr68
theorem awg69:CutGd Tryz.prog sqHook aw69:= .mk (by simp) awr69
theorem awg70:CutGd Tryz.prog sqHook aw70:= .mk (by simp) awr70
theorem awg71:CutGd Tryz.prog sqHook aw71:= .mk (by simp) awr71
theorem awg72:CutGd Tryz.prog sqHook aw72:= .mk (by simp) awr72
theorem awg73:CutGd Tryz.prog sqHook aw73:= .mk (by simp) awr73
theorem awg74:CutGd Tryz.prog sqHook aw74:= .mk (by simp) awr74
theorem awg75:CutGd Tryz.prog sqHook aw75:= .mk (by simp) awr75
theorem awg76:CutGd Tryz.prog sqHook aw76:= .mk (by simp) awr76
theorem awg77:CutGd Tryz.prog sqHook aw77:= .mk (by simp) awr77
theorem awg78:CutGd Tryz.prog sqHook aw78:= .mk (by simp) awr78
theorem awg79:CutGd Tryz.prog sqHook aw79:= .mk (by simp) awr79
theorem awg80:CutGd Tryz.prog sqHook aw80:= .mk (by simp) awr80
theorem awg81:CutGd Tryz.prog sqHook aw81:= .mk (by simp) awr81
theorem awg82:CutGd Tryz.prog sqHook aw82:= .mk (by simp) awr82
theorem awg83:CutGd Tryz.prog sqHook aw83:= .mk (by simp) awr83
theorem awg84:CutGd Tryz.prog sqHook aw84:= .mk (by simp) awr84
theorem awg85:CutGd Tryz.prog sqHook aw85:= .mk (by simp) awr85
theorem awg86:CutGd Tryz.prog sqHook aw86:= .mk (by simp) awr86
theorem awg87:CutGd Tryz.prog sqHook aw87:= .mk (by simp) awr87
theorem awg88:CutGd Tryz.prog sqHook aw88:= .mk (by simp) awr88
theorem awg89:CutGd Tryz.prog sqHook aw89:= .mk (fun d h=>by simp at h;rcases h with rfl|rfl|rfl|rfl|rfl|rfl|rfl|rfl|rfl|rfl|rfl|rfl|rfl|rfl|rfl|rfl|rfl|rfl|rfl|rfl|rfl|rfl|rfl|rfl|rfl|rfl|rfl|rfl|rfl|rfl|rfl|rfl|rfl|rfl|rfl|rfl|rfl|rfl|rfl|rfl|rfl|rfl|rfl|rfl|rfl|rfl|rfl|rfl|rfl|rfl|rfl|rfl|rfl|rfl|rfl|rfl|rfl|rfl|rfl|rfl|rfl|rfl|rfl|rfl|rfl|rfl|rfl|rfl|rfl|rfl|rfl|rfl|rfl|rfl|rfl|rfl|rfl|rfl|rfl<;>first|exact awg10|exact awg11|exact awg12|exact awg13|exact awg14|exact awg15|exact awg16|exact awg17|exact awg18|exact awg19|exact awg20|exact awg21|exact awg22|exact awg23|exact awg24|exact awg25|exact awg26|exact awg27|exact awg28|exact awg29|exact awg30|exact awg31|exact awg32|exact awg33|exact awg34|exact awg35|exact awg36|exact awg37|exact awg38|exact awg39|exact awg40|exact awg41|exact awg42|exact awg43|exact awg44|exact awg45|exact awg46|exact awg47|exact awg48|exact awg49|exact awg50|exact awg51|exact awg52|exact awg53|exact awg54|exact awg55|exact awg56|exact awg57|exact awg58|exact awg59|exact awg60|exact awg61|exact awg62|exact awg63|exact awg64|exact awg65|exact awg66|exact awg67|exact awg68|exact awg69|exact awg70|exact awg71|exact awg72|exact awg73|exact awg74|exact awg75|exact awg76|exact awg77|exact awg78|exact awg79|exact awg80|exact awg81|exact awg82|exact awg83|exact awg84|exact awg85|exact awg86|exact awg87|exact awg88) awr89
theorem awg90:CutGd Tryz.prog sqHook aw90:= .mk (fun d h=>by simp at h;subst h;exact awg89) awr90
theorem awg91:CutGd Tryz.prog sqHook aw91:= .mk (fun d h=>by simp at h;rcases h with rfl|rfl|rfl<;>first|exact awg8|exact awg9|exact awg90) awr91
theorem awg92:CutGd Tryz.prog sqHook aw92:= .mk (by simp) awr92
theorem awg93:CutGd Tryz.prog sqHook aw93:= .mk (by simp) awr93
theorem awg94:CutGd Tryz.prog sqHook aw94:= .mk (fun d h=>by simp at h;subst h;exact awg93) awr94
theorem awg95:CutGd Tryz.prog sqHook aw95:= .mk (by simp) awr95
theorem awg96:CutGd Tryz.prog sqHook aw96:= .mk (fun d h=>by simp at h;subst h;exact awg95) awr96
theorem awg97:CutGd Tryz.prog sqHook aw97:= .mk (by simp) awr97
theorem awg98:CutGd Tryz.prog sqHook aw98:= .mk (by simp) awr98
theorem awg99:CutGd Tryz.prog sqHook aw99:= .mk (by simp) awr99
theorem awg100:CutGd Tryz.prog sqHook aw100:= .mk (fun d h=>by simp at h;rcases h with rfl|rfl<;>first|exact awg98|exact awg99) awr100
theorem awg101:CutGd Tryz.prog sqHook aw101:= .mk (fun d h=>by simp at h;subst h;exact awg100) awr101
theorem awg102:CutGd Tryz.prog sqHook aw102:= .mk (fun d h=>by simp at h;rcases h with rfl|rfl<;>first|exact awg97|exact awg101) awr102
theorem awg103:CutGd Tryz.prog sqHook aw103:= .mk (fun d h=>by simp at h;rcases h with rfl|rfl|rfl|rfl<;>first|exact awg92|exact awg94|exact awg96|exact awg102) awr103
theorem awg104:CutGd Tryz.prog sqHook aw104:= .mk (by simp) awr104
theorem awg105:CutGd Tryz.prog sqHook aw105:= .mk (fun d h=>by simp at h;subst h;exact awg104) awr105
theorem awg106:CutGd Tryz.prog sqHook aw106:= .mk (by simp) awr106
theorem awg107:CutGd Tryz.prog sqHook aw107:= .mk (fun d h=>by simp at h;subst h;exact awg106) awr107
theorem awg108:CutGd Tryz.prog sqHook aw108:= .mk (fun d h=>by simp at h;rcases h with rfl|rfl<;>first|exact awg105|exact awg107) awr108
theorem awg109:CutGd Tryz.prog sqHook aw109:= .mk (by simp) awr109
theorem awg110:CutGd Tryz.prog sqHook aw110:= .mk (fun d h=>by simp at h;subst h;exact awg109) awr110
theorem awg111:CutGd Tryz.prog sqHook aw111:= .mk (by simp) awr111
theorem awg112:CutGd Tryz.prog sqHook aw112:= .mk (fun d h=>by simp at h;rcases h with rfl|rfl|rfl|rfl|rfl|rfl|rfl<;>first|exact awg4|exact awg6|exact awg91|exact awg103|exact awg108|exact awg110|exact awg111) awr112
end Go.Proofs.YtcbcegdidlefiaaGreat
