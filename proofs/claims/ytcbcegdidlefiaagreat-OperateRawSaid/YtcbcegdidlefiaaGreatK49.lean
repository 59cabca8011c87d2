/- The statement OperateRaw, proved: for every input its function returns true. No condition. -/
import Derived.Test.YtcbcegdidlefiaaGreatK48
namespace Go.Proofs.YtcbcegdidlefiaaGreat
open Go.ChangeShapes Go.WideShapes Go.ChangeAt Go.RowKit
theorem operateRaw_holds:Rows.OperateRawSaid:=
 OpenClaim.holds_of_wide 7 Tryz.f7 rfl rfl rfl rfl rfl rfl rfl ⟨rfl,rfl,rfl,rfl,rfl⟩ rfl rfl rfl rfl rfl (by kernel_rfl) Tryz.func7 orawJ
  (of_decide_eq_true (by kernel_rfl)) (by unfold Func.isWrapper;first|(rw[if_pos (by decide+kernel)];kernel_rfl)|(rw[if_neg (by decide+kernel)];exact⟨rfl,rfl⟩))
  (fun os started H enc _=>operateRaw_lifted os started H enc)
#print axioms operateRaw_holds
end Go.Proofs.YtcbcegdidlefiaaGreat
