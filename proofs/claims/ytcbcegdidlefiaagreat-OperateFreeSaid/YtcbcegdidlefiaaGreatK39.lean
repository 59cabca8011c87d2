/- The example of chapter 39: awake answers true. No condition. -/
import Derived.Test.YtcbcegdidlefiaaGreatK38
namespace Go.Proofs.YtcbcegdidlefiaaGreat
open Go.RowKit

theorem awake39_any (w : World) : Calls Tryz.prog 11 #[] w fun e w' => e = .returned (.bool true) ∧ KeepsAll w w' := by
  have h := awk271_true w
  rw [show awk271.f = 11 from by unfold awk271; rfl] at h
  exact h
end Go.Proofs.YtcbcegdidlefiaaGreat
