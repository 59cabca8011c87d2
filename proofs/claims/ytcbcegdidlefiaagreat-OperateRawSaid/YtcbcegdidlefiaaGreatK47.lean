/- The example of chapter 39: awake answers true. No condition. -/
import Derived.Test.YtcbcegdidlefiaaGreatK46
namespace Go.Proofs.YtcbcegdidlefiaaGreat
open Go.RowKit
theorem awake39_any (w:World):Calls Tryz.prog 11 #[] w fun e w'=>e= .returned (.bool true)∧KeepsAll w w':=
 CutGd.yes mixed_ok sqHook_ok (c:=aw112) awg112 rfl rfl rfl rfl w
end Go.Proofs.YtcbcegdidlefiaaGreat
