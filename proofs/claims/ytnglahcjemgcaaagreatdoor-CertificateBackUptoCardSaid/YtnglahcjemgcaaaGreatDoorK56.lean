/- The statement CertificateBack, second form, and its tied card, proved. No condition. -/
import Derived.Test.YtnglahcjemgcaaaGreatDoorK52
import Derived.Test.YtnglahcjemgcaaaGreatDoorK55
import Derived.Test.YtnglahcjemgcaaaGreatDoorCards
import Derived.Test.YtnglahcjemgcaaaGreatDoorTie
import Derived.WalkKit
namespace Go.Proofs.YtnglahcjemgcaaaGreatDoor
open Go.ChangeShapes Go.WideShapes Go.ChangeAt Go.RowKit

set_option maxRecDepth 100000 in
theorem certificateBackUpto_holds : Rows.CertificateBackUptoSaid :=
  OpenClaim.holds_of_cond 4 Tryz.f4 rfl rfl rfl rfl rfl rfl rfl ⟨rfl, rfl, rfl, rfl, rfl⟩ rfl rfl rfl rfl rfl (by kernel_rfl) Tryz.func4 cbkJ
    (of_decide_eq_true (by kernel_rfl)) (by unfold Func.isWrapper; first | (rw [if_pos (by decide +kernel)]; kernel_rfl) | (rw [if_neg (by decide +kernel)]; exact ⟨rfl, rfl⟩))
    (fun os started H enc _ F => by rw [OpenClaim.pre_eq_preRow]; exact certificateBack_lifted os started H enc F)

/-- No parameter wants a stand-in; the program's own looks are off: what the card asks. -/
theorem certificateBack_plain (f : FuncId) (fn : Func) (hf : Tryz.pinned.checked.prog.funcNamed "railplan/railplanlaw43.CertificateBack" = some f) (hfn : Tryz.pinned.checked.prog.funcs[f]? = some fn) :
    false = Tryz.pinned.checked.prog.looks [] ∧ ∀ (j : Nat) t, fn.params[j]? = some t → Tryz.pinned.checked.prog.wantsStandIn t = false := by
  obtain rfl : f = 4 := Option.some.inj ((show Tryz.prog.funcNamed "railplan/railplanlaw43.CertificateBack" = some 4 by kernel_rfl).symm.trans hf) |>.symm
  obtain rfl : fn = Tryz.f4 := (Option.some.inj (Tryz.func4.symm.trans hfn)).symm
  refine ⟨by kernel_rfl, fun j t ht => ?_⟩
  have hall : (Tryz.f4.params.toList.all fun t => !Tryz.prog.wantsStandIn t) = true := by kernel_rfl
  have := List.all_eq_true.1 hall t (Array.mem_toList_iff.2 (Array.mem_of_getElem? ht))
  exact (Bool.not_eq_true' _ ).mp this

theorem certificateBackUptoCard_holds : Rows.CertificateBackUptoCardSaid :=
  Claim7.holds_tied_plain_at .later [] _ _ _ _ certificateBackUpto_holds (fun _ h => by cases h) (by kernel_rfl) (fun _ h => by cases h) certificateBackUpto_row_tie rfl ⟨rfl, rfl⟩ (by kernel_rfl) rfl certificateBack_plain (by kernel_rfl)
#print axioms certificateBackUptoCard_holds
end Go.Proofs.YtnglahcjemgcaaaGreatDoor
