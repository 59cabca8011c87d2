/- From a row's argument that is a slice of slices or of structs to its reading. No condition. From a row's argument that is a problem or a solution of chapter 37 to its reading. No condition. -/
import Derived.Test.YtilbbpbjhoidhaaA52
import Derived.Test.YtilbbpbjhoidhaaA13
import Derived.Deep.Slices
import Derived.ChangeArms
import Derived.DataReads
import Derived.Test.YtilbbpbjhoidhaaA27
namespace Go.Proofs.Ytilbbpbjhoidhaa
open Go.ChangeShapes Go.WideShapes Go.ChangeAt Go.RowKit

section
variable {H : Type} {enc : TypeId × Value → H} {W : World}
/-- the cells of a value of type t read by E -/
def Opens {α : Type} (enc : TypeId × Value → H) (W : World) (t size : Nat) (E : Rd α) : Prop := ∀ (n : Nat) (cs : List Value) (x : DataW H × List MemPlace), DataW.trod enc Try.prog W 0 (fun _ => true) true n t cs = some x → cs.length = size ∧ ∃ y, E W (Old W) cs y
theorem opens_int : Opens enc W 3 1 RInt := fun n cs x h => by
 obtain ⟨z, rfl, _, _⟩ := DataW.trod_int Try.underlying3 h
 exact ⟨rfl, z, rfl⟩
theorem add_none (b o j : Nat) : (Addr.mk b o none).add j = ⟨b, o + j, none⟩ := by
 unfold Addr.add; split
 ·subst_vars; rfl
 ·simp
theorem opens_slice {α : Type} {T t size : Nat} {E : Rd α} (ht : Try.prog.underlying T = some (.slice t)) (hsz : Try.prog.cellsOf t = size) (hp : 0 < size) (hE : Opens enc W t size E) : Opens enc W T 1 (RSlice size E) := fun n cs x h => by
 rcases Go.Deep.open_slice ht h with ⟨rfl, _⟩ | ⟨a, len, cap, m, n', D, Pl, rfl, _, hl, hm, hmm, _, hel⟩
 ·exact ⟨rfl, [], RSlice.mkNil⟩
 ·refine ⟨rfl, ?_⟩
  rw [hsz] at hel
  have hmc : m = cap := hmm
  by_cases h0 : len = 0
  ·subst h0
   exact ⟨[], some a, cap, rfl, Nat.zero_le _, by simpa [maxLen] using hm, fun h => absurd rfl h⟩
  ·obtain ⟨cs0, hc0, _⟩ := hel 0 (by omega)
   obtain ⟨_, hl0, hcell0⟩ := World.cells?_some hc0
   have hcc := hcell0 0 hp
   have hs0 : cs0[0]? = some (cs0[0]'(by omega)) := List.getElem?_eq_getElem _
   rw [hs0] at hcc
   obtain ⟨b, o, spot⟩ := a
   have hspot : spot = none := by simpa [Addr.add] using World.cell?_spot hcc
   subst hspot
   have hblk : b < W.heap.size := by have := cell_lt hcc; simpa [Addr.add] using this
   obtain ⟨l, hl1, hl2⟩ := list_choose (P := fun j y => ∃ es, es.length = size ∧ E W (Old W) es y ∧ ∀ i u, es[i]? = some u → W.cell? ⟨b, o + (j * size + i), none⟩ = some u) len (fun j hj => by
    obtain ⟨cs', hc, htr⟩ := hel j (by omega)
    obtain ⟨_, hlc, hcell⟩ := World.cells?_some hc
    obtain ⟨hl', y, hy⟩ := hE n' cs' _ htr
    refine ⟨y, cs', hl', hy, fun i u hu => ?_⟩
    have hi : i < size := by rw [← hl']; exact getElem?_lt hu
    have := hcell i hi
    rw [add_none, add_none, hu, Nat.add_assoc] at this
    exact this)
   exact ⟨l, some ⟨b, o, none⟩, cap, by rw [hl1], by omega, by simpa [maxLen] using hm, fun _ => ⟨b, o, rfl, hblk, hl2⟩⟩
theorem four {cs : List Value} (h : cs.length = 4) : ∃ a b c d, cs = [a, b, c, d] := by
 match cs, h with
 | [a, b, c, d], _ => exact ⟨a, b, c, d, rfl⟩
theorem two {cs : List Value} (h : cs.length = 2) : ∃ a b, cs = [a, b] := by
 match cs, h with
 | [a, b], _ => exact ⟨a, b, rfl⟩
theorem some_of {α : Type} {xs : List α} {i n : Nat} {z : Option α} (hl : xs.length = n) (hi : i < n) (h : z = xs[i]?) : ∃ x, z = some x := ⟨xs[i]'(by omega), by rw [h]; exact List.getElem?_eq_getElem _⟩
theorem opens_ints : Opens enc W 22 1 RInts := opens_slice Try.underlying22 (by kernel_rfl) (by omega) opens_int
theorem opens_stage : Opens enc W 99 4 RStage := fun n cs x h => by
 obtain ⟨xs, m, _, _, hl, hxl, hf⟩ := DataW.trod_struct Try.underlying99 h
 have hc : Try.prog.cellsOf 99 = 4 := by kernel_rfl
 have hci : Try.prog.cellsOf 3 = 1 := by kernel_rfl
 have hcs : Try.prog.cellsOf 22 = 1 := by kernel_rfl
 rw [hc] at hl
 obtain ⟨a, b, c, d, rfl⟩ := four hl
 refine ⟨rfl, ?_⟩
 have q0 : DataW.trod enc Try.prog W 0 (fun _ => true) true m 3 (([a, b, c, d].drop 0).take (Try.prog.cellsOf 3)) = xs[0]? := hf 0 _ rfl
 have q1 : DataW.trod enc Try.prog W 0 (fun _ => true) true m 22 (([a, b, c, d].drop 1).take (Try.prog.cellsOf 22)) = xs[1]? := hf 1 _ rfl
 have q2 : DataW.trod enc Try.prog W 0 (fun _ => true) true m 3 (([a, b, c, d].drop 2).take (Try.prog.cellsOf 3)) = xs[2]? := hf 2 _ rfl
 have q3 : DataW.trod enc Try.prog W 0 (fun _ => true) true m 3 (([a, b, c, d].drop 3).take (Try.prog.cellsOf 3)) = xs[3]? := hf 3 _ rfl
 rw [hci] at q0 q2 q3
 rw [hcs] at q1
 obtain ⟨x0, h0⟩ := some_of hxl (i := 0) (by simp) q0
 obtain ⟨x1, h1⟩ := some_of hxl (i := 1) (by simp) q1
 obtain ⟨x2, h2⟩ := some_of hxl (i := 2) (by simp) q2
 obtain ⟨x3, h3⟩ := some_of hxl (i := 3) (by simp) q3
 obtain ⟨z0, e0, _, _⟩ := DataW.trod_int Try.underlying3 h0
 obtain ⟨_, z1, e1⟩ := opens_ints m _ _ h1
 obtain ⟨z2, e2, _, _⟩ := DataW.trod_int Try.underlying3 h2
 obtain ⟨z3, e3, _, _⟩ := DataW.trod_int Try.underlying3 h3
 injection e0 with e0; injection e2 with e2; injection e3 with e3
 subst e0 e2 e3
 exact ⟨⟨z0, z1, z2, z3⟩, b, rfl, e1⟩
theorem opens_ref : Opens enc W 46 2 RRef := fun n cs x h => by
 obtain ⟨xs, m, _, _, hl, hxl, hf⟩ := DataW.trod_struct Try.underlying46 h
 have hc : Try.prog.cellsOf 46 = 2 := by kernel_rfl
 have hci : Try.prog.cellsOf 3 = 1 := by kernel_rfl
 rw [hc] at hl
 obtain ⟨a, b, rfl⟩ := two hl
 refine ⟨rfl, ?_⟩
 have q0 : DataW.trod enc Try.prog W 0 (fun _ => true) true m 3 (([a, b].drop 0).take (Try.prog.cellsOf 3)) = xs[0]? := hf 0 _ rfl
 have q1 : DataW.trod enc Try.prog W 0 (fun _ => true) true m 3 (([a, b].drop 1).take (Try.prog.cellsOf 3)) = xs[1]? := hf 1 _ rfl
 rw [hci] at q0 q1
 obtain ⟨x0, h0⟩ := some_of hxl (i := 0) (by simp) q0
 obtain ⟨x1, h1⟩ := some_of hxl (i := 1) (by simp) q1
 obtain ⟨z0, e0, _, _⟩ := DataW.trod_int Try.underlying3 h0
 obtain ⟨z1, e1, _, _⟩ := DataW.trod_int Try.underlying3 h1
 injection e0 with e0; injection e1 with e1
 subst e0 e1
 exact ⟨⟨z0, z1⟩, rfl⟩
theorem opens_refs : Opens enc W 42 1 RRefs := opens_slice Try.underlying42 (by kernel_rfl) (by omega) opens_ref
theorem opens_order : Opens enc W 44 2 ROrder := fun n cs x h => by
 obtain ⟨xs, m, _, _, hl, hxl, hf⟩ := DataW.trod_struct Try.underlying44 h
 have hc : Try.prog.cellsOf 44 = 2 := by kernel_rfl
 have hci : Try.prog.cellsOf 3 = 1 := by kernel_rfl
 have hcs : Try.prog.cellsOf 42 = 1 := by kernel_rfl
 rw [hc] at hl
 obtain ⟨a, b, rfl⟩ := two hl
 refine ⟨rfl, ?_⟩
 have q0 : DataW.trod enc Try.prog W 0 (fun _ => true) true m 3 (([a, b].drop 0).take (Try.prog.cellsOf 3)) = xs[0]? := hf 0 _ rfl
 have q1 : DataW.trod enc Try.prog W 0 (fun _ => true) true m 42 (([a, b].drop 1).take (Try.prog.cellsOf 42)) = xs[1]? := hf 1 _ rfl
 rw [hci] at q0
 rw [hcs] at q1
 obtain ⟨x0, h0⟩ := some_of hxl (i := 0) (by simp) q0
 obtain ⟨x1, h1⟩ := some_of hxl (i := 1) (by simp) q1
 obtain ⟨z0, e0, _, _⟩ := DataW.trod_int Try.underlying3 h0
 obtain ⟨_, z1, e1⟩ := opens_refs m _ _ h1
 injection e0 with e0
 subst e0
 exact ⟨⟨z0, z1⟩, b, rfl, e1⟩
theorem opens_paths : Opens enc W 23 1 RPaths := opens_slice Try.underlying23 (by kernel_rfl) (by omega) (opens_slice Try.underlying100 (by kernel_rfl) (by omega) opens_stage)
theorem opens_orders : Opens enc W 28 1 ROrders := opens_slice Try.underlying28 (by kernel_rfl) (by omega) opens_order
theorem opens_intss : Opens enc W 29 1 RIntss := opens_slice Try.underlying29 (by kernel_rfl) (by omega) opens_ints

end

open Go.ChangeShapes Go.WideShapes Go.ChangeAt Go.RowKit

section
variable {H : Type} {enc : TypeId × Value → H} {W : World}
theorem five {cs : List Value} (h : cs.length = 5) : ∃ a b c d e, cs = [a, b, c, d, e] := by
 match cs, h with
 | [a, b, c, d, e], _ => exact ⟨a, b, c, d, e, rfl⟩
theorem three {cs : List Value} (h : cs.length = 3) : ∃ a b c, cs = [a, b, c] := by
 match cs, h with
 | [a, b, c], _ => exact ⟨a, b, c, rfl⟩
theorem rslice_form {α : Type} {size : Nat} {E : Rd α} {w : World} {S : Foot} {u : Value} {l : List α} (h : RSlice size E w S [u] l) : ∃ A c, u = .slice A l.length c := by
 obtain ⟨A, c, he, _⟩ := h
 injection he with he _
 exact ⟨A, c, he⟩
theorem trod_pb {cs : Array Value} {d : DataW H} {p : List MemPlace} (h : DataW.Trod enc Try.prog W 0 (fun _ => true) true 25 (.agg cs) d p) : ∃ (v : PV) (q : Pb), cs = #[.slice v.A q.ps.length v.c, .slice v.A2 q.at_.length v.c2, .slice v.A3 q.due.length v.c3, .slice v.A4 q.wgt.length v.c4, .int .i64 q.now] ∧ RPb W (Old W) v q := by
 obtain ⟨fuel, hf0⟩ := h
 obtain ⟨xs, m, _, _, hl, hxl, hf⟩ := DataW.trod_struct Try.underlying25 hf0
 have e : (Value.agg cs).cells.toList = cs.toList := rfl
 have hc : Try.prog.cellsOf 25 = 5 := by kernel_rfl
 have hci : Try.prog.cellsOf 3 = 1 := by kernel_rfl
 have hcs : Try.prog.cellsOf 22 = 1 := by kernel_rfl
 have hcp : Try.prog.cellsOf 23 = 1 := by kernel_rfl
 rw [e] at hl hf
 rw [hc] at hl
 obtain ⟨a0, a1, a2, a3, a4, hcl⟩ := five hl
 obtain rfl : cs = #[a0, a1, a2, a3, a4] := by cases cs; simp_all
 have q0 : DataW.trod enc Try.prog W 0 (fun _ => true) true m 23 (([a0, a1, a2, a3, a4].drop 0).take (Try.prog.cellsOf 23)) = xs[0]? := hf 0 _ rfl
 have q1 : DataW.trod enc Try.prog W 0 (fun _ => true) true m 22 (([a0, a1, a2, a3, a4].drop 1).take (Try.prog.cellsOf 22)) = xs[1]? := hf 1 _ rfl
 have q2 : DataW.trod enc Try.prog W 0 (fun _ => true) true m 22 (([a0, a1, a2, a3, a4].drop 2).take (Try.prog.cellsOf 22)) = xs[2]? := hf 2 _ rfl
 have q3 : DataW.trod enc Try.prog W 0 (fun _ => true) true m 22 (([a0, a1, a2, a3, a4].drop 3).take (Try.prog.cellsOf 22)) = xs[3]? := hf 3 _ rfl
 have q4 : DataW.trod enc Try.prog W 0 (fun _ => true) true m 3 (([a0, a1, a2, a3, a4].drop 4).take (Try.prog.cellsOf 3)) = xs[4]? := hf 4 _ rfl
 rw [hcp] at q0
 rw [hcs] at q1 q2 q3
 rw [hci] at q4
 obtain ⟨x0, h0⟩ := some_of hxl (i := 0) (by simp) q0
 obtain ⟨x1, h1⟩ := some_of hxl (i := 1) (by simp) q1
 obtain ⟨x2, h2⟩ := some_of hxl (i := 2) (by simp) q2
 obtain ⟨x3, h3⟩ := some_of hxl (i := 3) (by simp) q3
 obtain ⟨x4, h4⟩ := some_of hxl (i := 4) (by simp) q4
 obtain ⟨_, l0, r0⟩ := opens_paths m _ _ h0
 obtain ⟨_, l1, r1⟩ := opens_ints m _ _ h1
 obtain ⟨_, l2, r2⟩ := opens_ints m _ _ h2
 obtain ⟨_, l3, r3⟩ := opens_ints m _ _ h3
 obtain ⟨z4, e4, _, _⟩ := DataW.trod_int Try.underlying3 h4
 injection e4 with e4; subst e4
 obtain ⟨A0, c0, rfl⟩ := rslice_form r0
 obtain ⟨A1, c1, rfl⟩ := rslice_form r1
 obtain ⟨A2, c2, rfl⟩ := rslice_form r2
 obtain ⟨A3, c3, rfl⟩ := rslice_form r3
 exact ⟨⟨A0, c0, A1, c1, A2, c2, A3, c3⟩, ⟨l0, l1, l2, l3, z4⟩, rfl, ⟨r0, r1, r2, r3⟩⟩
theorem trod_soln {cs : Array Value} {d : DataW H} {p : List MemPlace} (h : DataW.Trod enc Try.prog W 0 (fun _ => true) true 31 (.agg cs) d p) : ∃ (os : List Order) (en : List (List Int)) (cost : Int) (Ao Ae : Option Addr) (co ce : Nat), cs = #[.slice Ao os.length co, .slice Ae en.length ce, .int .i64 cost] ∧ ROrders W (Old W) [.slice Ao os.length co] os ∧ RIntss W (Old W) [.slice Ae en.length ce] en := by
 obtain ⟨fuel, hf0⟩ := h
 obtain ⟨xs, m, _, _, hl, hxl, hf⟩ := DataW.trod_struct Try.underlying31 hf0
 have e : (Value.agg cs).cells.toList = cs.toList := rfl
 have hc : Try.prog.cellsOf 31 = 3 := by kernel_rfl
 have hci : Try.prog.cellsOf 3 = 1 := by kernel_rfl
 have hcs : Try.prog.cellsOf 28 = 1 := by kernel_rfl
 have hcp : Try.prog.cellsOf 29 = 1 := by kernel_rfl
 rw [e] at hl hf
 rw [hc] at hl
 obtain ⟨a0, a1, a2, hcl⟩ := three hl
 obtain rfl : cs = #[a0, a1, a2] := by cases cs; simp_all
 have q0 : DataW.trod enc Try.prog W 0 (fun _ => true) true m 28 (([a0, a1, a2].drop 0).take (Try.prog.cellsOf 28)) = xs[0]? := hf 0 _ rfl
 have q1 : DataW.trod enc Try.prog W 0 (fun _ => true) true m 29 (([a0, a1, a2].drop 1).take (Try.prog.cellsOf 29)) = xs[1]? := hf 1 _ rfl
 have q2 : DataW.trod enc Try.prog W 0 (fun _ => true) true m 3 (([a0, a1, a2].drop 2).take (Try.prog.cellsOf 3)) = xs[2]? := hf 2 _ rfl
 rw [hcs] at q0
 rw [hcp] at q1
 rw [hci] at q2
 obtain ⟨x0, h0⟩ := some_of hxl (i := 0) (by simp) q0
 obtain ⟨x1, h1⟩ := some_of hxl (i := 1) (by simp) q1
 obtain ⟨x2, h2⟩ := some_of hxl (i := 2) (by simp) q2
 obtain ⟨_, l0, r0⟩ := opens_orders m _ _ h0
 obtain ⟨_, l1, r1⟩ := opens_intss m _ _ h1
 obtain ⟨z2, e2, _, _⟩ := DataW.trod_int Try.underlying3 h2
 injection e2 with e2; subst e2
 obtain ⟨A0, c0, rfl⟩ := rslice_form r0
 obtain ⟨A1, c1, rfl⟩ := rslice_form r1
 exact ⟨l0, l1, z2, A0, A1, c0, c1, rfl, r0, r1⟩
end

end Go.Proofs.Ytilbbpbjhoidhaa
