/- The statement OperateFree, proved: for every input its function returns true. No condition. -/
import Derived.Test.YtcbcegdidlefiaaGreatK40
import Derived.Test.YtcbcegdidlefiaaGreatK41
namespace Go.Proofs.YtcbcegdidlefiaaGreat
open Go.ChangeShapes Go.WideShapes Go.ChangeAt Go.RowKit

theorem operateFree_holds : Rows.OperateFreeSaid :=
  OpenClaim.holds_of_wide 5 Tryz.f5 rfl rfl rfl rfl rfl rfl rfl ⟨rfl, rfl, rfl, rfl, rfl⟩ rfl rfl rfl rfl rfl (by kernel_rfl) Tryz.func5 ofJ
    (of_decide_eq_true (by kernel_rfl)) (by unfold Func.isWrapper; first | (rw [if_pos (by decide +kernel)]; kernel_rfl) | (rw [if_neg (by decide +kernel)]; exact ⟨rfl, rfl⟩))
    (fun os started H enc _ => operateFree_lifted os started H enc)
#print axioms operateFree_holds

end Go.Proofs.YtcbcegdidlefiaaGreat
