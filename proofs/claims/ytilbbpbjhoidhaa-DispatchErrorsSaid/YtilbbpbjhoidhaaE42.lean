/- From a row's argument that is a problem or a solution of chapter 37 to its reading. No condition. -/
import Derived.Test.YtilbbpbjhoidhaaE41
import Derived.Test.YtilbbpbjhoidhaaE20
namespace Go.Proofs.Ytilbbpbjhoidhaa
open Go.ChangeShapes Go.WideShapes Go.ChangeAt Go.RowKit

section
variable {H : Type} {enc : TypeId × Value → H} {W : World}
theorem five {cs : List Value} (h : cs.length = 5) : ∃ a b c d e, cs = [a, b, c, d, e] := by
 match cs, h with
 | [a, b, c, d, e], _ => exact ⟨a, b, c, d, e, rfl⟩
theorem rslice_form {α : Type} {size : Nat} {E : Rd α} {w : World} {S : Foot} {u : Value} {l : List α} (h : RSlice size E w S [u] l) : ∃ A c, u = .slice A l.length c := by
 obtain ⟨A, c, he, _⟩ := h
 injection he with he _
 exact ⟨A, c, he⟩
theorem trod_pb {cs : Array Value} {d : DataW H} {p : List MemPlace} (h : DataW.Trod enc Try.prog W 0 (fun _ => true) true 25 (.agg cs) d p) : ∃ (v : PV) (q : Pb), cs = #[.slice v.A q.ps.length v.c, .slice v.A2 q.at_.length v.c2, .slice v.A3 q.due.length v.c3, .slice v.A4 q.wgt.length v.c4, .int .i64 q.now] ∧ RPb W (Old W) v q := by
 obtain ⟨fuel, hf0⟩ := h
 obtain ⟨xs, m, _, _, hl, hxl, hf⟩ := DataW.trod_struct Try.underlying25 hf0
 have e : (Value.agg cs).cells.toList = cs.toList := rfl
 have hc : Try.prog.cellsOf 25 = 5 := by kernel_rfl
 have hci : Try.prog.cellsOf 3 = 1 := by kernel_rfl
 have hcs : Try.prog.cellsOf 22 = 1 := by kernel_rfl
 have hcp : Try.prog.cellsOf 23 = 1 := by kernel_rfl
 rw [e] at hl hf
 rw [hc] at hl
 obtain ⟨a0, a1, a2, a3, a4, hcl⟩ := five hl
 obtain rfl : cs = #[a0, a1, a2, a3, a4] := by cases cs; simp_all
 have q0 : DataW.trod enc Try.prog W 0 (fun _ => true) true m 23 (([a0, a1, a2, a3, a4].drop 0).take (Try.prog.cellsOf 23)) = xs[0]? := hf 0 _ rfl
 have q1 : DataW.trod enc Try.prog W 0 (fun _ => true) true m 22 (([a0, a1, a2, a3, a4].drop 1).take (Try.prog.cellsOf 22)) = xs[1]? := hf 1 _ rfl
 have q2 : DataW.trod enc Try.prog W 0 (fun _ => true) true m 22 (([a0, a1, a2, a3, a4].drop 2).take (Try.prog.cellsOf 22)) = xs[2]? := hf 2 _ rfl
 have q3 : DataW.trod enc Try.prog W 0 (fun _ => true) true m 22 (([a0, a1, a2, a3, a4].drop 3).take (Try.prog.cellsOf 22)) = xs[3]? := hf 3 _ rfl
 have q4 : DataW.trod enc Try.prog W 0 (fun _ => true) true m 3 (([a0, a1, a2, a3, a4].drop 4).take (Try.prog.cellsOf 3)) = xs[4]? := hf 4 _ rfl
 rw [hcp] at q0
 rw [hcs] at q1 q2 q3
 rw [hci] at q4
 obtain ⟨x0, h0⟩ := some_of hxl (i := 0) (by simp) q0
 obtain ⟨x1, h1⟩ := some_of hxl (i := 1) (by simp) q1
 obtain ⟨x2, h2⟩ := some_of hxl (i := 2) (by simp) q2
 obtain ⟨x3, h3⟩ := some_of hxl (i := 3) (by simp) q3
 obtain ⟨x4, h4⟩ := some_of hxl (i := 4) (by simp) q4
 obtain ⟨_, l0, r0⟩ := opens_paths m _ _ h0
 obtain ⟨_, l1, r1⟩ := opens_ints m _ _ h1
 obtain ⟨_, l2, r2⟩ := opens_ints m _ _ h2
 obtain ⟨_, l3, r3⟩ := opens_ints m _ _ h3
 obtain ⟨z4, e4, _, _⟩ := DataW.trod_int Try.underlying3 h4
 injection e4 with e4; subst e4
 obtain ⟨A0, c0, rfl⟩ := rslice_form r0
 obtain ⟨A1, c1, rfl⟩ := rslice_form r1
 obtain ⟨A2, c2, rfl⟩ := rslice_form r2
 obtain ⟨A3, c3, rfl⟩ := rslice_form r3
 exact ⟨⟨A0, c0, A1, c1, A2, c2, A3, c3⟩, ⟨l0, l1, l2, l3, z4⟩, rfl, ⟨r0, r1, r2, r3⟩⟩
end

end Go.Proofs.Ytilbbpbjhoidhaa
