/- Contract of the maker of small problems of chapter 37. Conditions: as each theorem says. -/
import Derived.Test.YtilbbpbjhoidhaaK44
import Derived.Lib.MinMax
namespace Go.Proofs.Ytilbbpbjhoidhaa
open Go.RowKit

def cutP (p : Pb) (n : Nat) : Pb := ⟨p.ps.take n, p.at_.take n, p.due.take n, p.wgt.take n, p.now⟩
theorem goodFrom_take : ∀ (n : Nat) (ps : List (List Stage)) (l : List Int), goodFrom ps l = true → goodFrom (ps.take n) (l.take n) = true
 | 0, ps, l, _ => by simp [goodFrom]
 | n + 1, [], l, _ => by simp [goodFrom]
 | n + 1, p :: ps, [], _ => by simp [goodFrom]
 | n + 1, p :: ps, a :: l, h => by
  simp only [goodFrom, Bool.and_eq_true, List.take_succ_cons] at h ⊢
  exact ⟨h.1, goodFrom_take n ps l h.2⟩
theorem PbMade.cut {p : Pb} (h : PbMade p) {n : Nat} (h1 : 1 ≤ n) (h2 : n ≤ p.ps.length) : PbMade (cutP p n) := by
 obtain ⟨a, b, c⟩ := h.ps
 have hg := h.at_
 unfold good at hg
 rw [Bool.and_eq_true, decide_eq_true_eq] at hg
 refine ⟨⟨?_, ?_, fun q hq => c q (List.mem_of_mem_take hq)⟩, ?_, ?_, ?_, fun x hx => h.d x (List.mem_of_mem_take hx), fun x hx => h.w x (List.mem_of_mem_take hx), h.n⟩
 ·show 1 ≤ (p.ps.take n).length; rw [List.length_take]; omega
 ·show (p.ps.take n).length ≤ 3; rw [List.length_take]; omega
 ·unfold good
  rw [Bool.and_eq_true, decide_eq_true_eq]
  refine ⟨?_, goodFrom_take n _ _ hg.2⟩
  show (p.at_.take n).length = (p.ps.take n).length
  rw [List.length_take, List.length_take, hg.1]
 ·show (p.due.take n).length = (p.ps.take n).length
  rw [List.length_take, List.length_take, h.dl]
 ·show (p.wgt.take n).length = (p.ps.take n).length
  rw [List.length_take, List.length_take, h.wl]

end Go.Proofs.Ytilbbpbjhoidhaa
