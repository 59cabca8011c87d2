/- The statement DispatchSolve: its function returns true. No condition beyond the arguments' reading. From a row's argument that is a slice of integers to its reading. No condition. -/
import Derived.Test.YtilbbpbjhoidhaaK46
import Derived.Test.YtilbbpbjhoidhaaK52
import Derived.Test.YtilbbpbjhoidhaaK15
import Derived.Test.YtilbbpbjhoidhaaK01
import Derived.Test.YtilbbpbjhoidhaaRows
import Derived.ProofKit
import Derived.OpenShut
import Derived.ShutString
import Derived.ChangeOld
import Derived.Below
namespace Go.Proofs.Ytilbbpbjhoidhaa
open Go.RowKit

set_option maxRecDepth 100000 in
set_option maxHeartbeats 1000000 in
theorem SameSol_same (x : Soln) (Ao Bo Ae Be : Option Addr) (co c2 ce c4 : Nat) (w : World) (h1 : ROrders w (Old w) [.slice Ao x.os.length co] x.os) (h2 : ROrders w (Old w) [.slice Bo x.os.length c2] x.os) (h3 : RIntss w (Old w) [.slice Ae x.en.length ce] x.en) (h4 : RIntss w (Old w) [.slice Be x.en.length c4] x.en) :
  Calls Try.prog 16 #[.agg #[.slice Ao x.os.length co, .slice Ae x.en.length ce, .int .i64 x.cost], .agg #[.slice Bo x.os.length c2, .slice Be x.en.length c4, .int .i64 x.cost]] w fun e w' => e = .returned (.bool true) ∧ KeepsAll w w' := by
 have HSO : Hid (∀ W, KeepsAll w W → Calls Try.prog 47 #[.slice Ao x.os.length co, .slice Bo x.os.length c2] W fun e w' => e = .returned (.bool true) ∧ KeepsAll W w') := fun W hW => SameOrders_same x.os Ao Bo co c2 W (hW.rdo' ROrders.ok h1) (hW.rdo' ROrders.ok h2)
 have HSL : Hid (∀ W, KeepsAll w W → Calls Try.prog 48 #[.slice Ae x.en.length ce, .slice Be x.en.length c4] W fun e w' => e = .returned (.bool true) ∧ KeepsAll W w') := fun W hW => SameLists_same x.en Ae Be ce c4 W (hW.rdo' RIntss.ok h3) (hW.rdo' RIntss.ok h4)
 clear h1 h2 h3 h4
 go_enter Try.func16, Try.ntmps16
 go_wp2_with fail
 generalize hW1 : World.alloc (World.alloc w _) _ = W1
 have k1 : KeepsAll w W1 := by subst hW1; exact ((Keeps.refl _ _).alloc _).alloc _
 have b2 : Blk W1 w.heap.size 31 #[.slice Ao x.os.length co, .slice Ae x.en.length ce, .int .i64 x.cost] := by subst hW1; exact (Blk.new _ _ _).alloc _
 have b3 : Blk W1 (w.heap.size + 1) 31 #[.slice Bo x.os.length c2, .slice Be x.en.length c4, .int .i64 x.cost] := by subst hW1; exact Blk.new' _ _ _ (by simp)
 have B2 := Lib.hid b2
 have B3 := Lib.hid b3
 have K1 := Lib.hid k1
 clear hW1 k1 b2 b3
 refine (HSO.out W1 K1.out).mono ?_
 rintro e w2 ⟨rfl, k2⟩
 have B22 := Lib.hid (B2.out.kept k2 (by simp))
 have B32 := Lib.hid (B3.out.kept k2 (by simp))
 have K2 := Lib.hid (K1.out.tr k2)
 have x1 := B22.out.cell 1
 have y1 := B32.out.cell 1
 simp at x1 y1
 have z1 := B22.out.lt
 have z2 := B32.out.lt
 clear k2 B2 B3 K1 HSO
 generalize w.heap.size = zp at *
 go_wp2_with fail
 refine (HSL.out w2 K2.out).mono ?_
 rintro e w3 ⟨rfl, k3⟩
 have x2 := (B22.out.kept k3 (by simp)).cell 2
 have y2 := (B32.out.kept k3 (by simp)).cell 2
 simp at x2 y2
 have K3 := Lib.hid (K2.out.tr k3)
 clear k3 x1 y1 HSL
 go_wp2
 go_ret
 exact ⟨rfl, K3.out⟩

set_option maxRecDepth 100000 in
set_option maxHeartbeats 4000000 in
theorem DispatchSolve_any (lp la ld : List Int) (Ap Aa Ad : Option Addr) (cp ca cd : Nat) (now budget : Int) (w : World) (h : RInts w (Old w) [.slice Ap lp.length cp] lp) (h2 : RInts w (Old w) [.slice Aa la.length ca] la) (h3 : RInts w (Old w) [.slice Ad ld.length cd] ld) :
  Calls Try.prog 3 #[.slice Ap lp.length cp, .slice Aa la.length ca, .slice Ad ld.length cd, .int .i64 now, .int .i64 budget] w fun e w' => e = .returned (.bool true) ∧ KeepsAll w w' := by
 have H := Lib.hid h
 have H2 := Lib.hid h2
 have H3 := Lib.hid h3
 clear h h2 h3
 go_enter Try.func3, Try.ntmps3
 go_wp2_with fail
 refine (problem37_any lp la ld Ap Aa Ad cp ca cd now w H.out H2.out H3.out).mono ?_
 rintro e w1 ⟨v, p, rfl, hr, hm, k1⟩
 have hr1 := hr.old
 have HR := Lib.hid hr1
 have HM := Lib.hid hm
 have K1 := Lib.hid k1
 clear hr hr1 hm k1 H H2 H3
 unfold PV.cs
 go_wp2_with fail
 generalize hW2 : World.alloc w1 _ = W2
 have k2 : KeepsAll w1 W2 := by subst hW2; exact (Keeps.refl _ _).alloc _
 have hbx : Blk W2 w1.heap.size 25 #[.slice v.A p.ps.length v.c, .slice v.A2 p.at_.length v.c2, .slice v.A3 p.due.length v.c3, .slice v.A4 p.wgt.length v.c4, .int .i64 p.now] := by subst hW2; exact Blk.new _ _ _
 have HR2 := Lib.hid (HR.out.kept k2)
 have HBX2 := Lib.hid hbx
 have K2 := Lib.hid (K1.out.tr k2)
 clear hW2 k2 hbx HR K1
 generalize w1.heap.size = zx at *
 refine (Pick_any budget 200 _ (by omega) (by omega)).mono ?_
 rintro e w2' ⟨rfl, rfl⟩
 have hpk := pick_range budget 200 (by omega)
 generalize pick budget 200 = q at *
 have hw1 : IntKind.i64.wrap (1 + q) = 1 + q := IntWalk.i64_in _ (by omega)
 have HS1 : Hid (∀ W, RPb W (Old W) v p → Calls Try.prog 13 #[.agg #[.slice v.A p.ps.length v.c, .slice v.A2 p.at_.length v.c2, .slice v.A3 p.due.length v.c3, .slice v.A4 p.wgt.length v.c4, .int .i64 p.now], .int .i64 (1 + q)] W (SolvePost (1 + q) p W)) := fun W hW => DspSolve_any p v W (1 + q) hW (fun _ => made_open HM.out.ps)
 have HS2 : Hid (∀ W, RPb W (Old W) v p → Calls Try.prog 14 #[.agg #[.slice v.A p.ps.length v.c, .slice v.A2 p.at_.length v.c2, .slice v.A3 p.due.length v.c3, .slice v.A4 p.wgt.length v.c4, .int .i64 p.now], .int .i64 (1 + q)] W (SolvePost (1 + q) p W)) := fun W hW => RSolve_made p v W (1 + q) hW HM.out.ps
 have x0 := HBX2.out.cell 0
 have x1 := HBX2.out.cell 1
 have x2 := HBX2.out.cell 2
 have x3 := HBX2.out.cell 3
 have x4 := HBX2.out.cell 4
 simp at x0 x1 x2 x3 x4
 go_wp2_with fail
 refine (HS1.out _ HR2.out).mono ?_
 rintro e w3 ⟨a, b, c, rfl, rs, k3⟩
 obtain ⟨Ao, co, Ae, ce, rfl, rfl, rfl, ro, re⟩ := rs.form
 have K3 := Lib.hid (K2.out.tr k3)
 have HR3 := Lib.hid (HR2.out.kept k3)
 have HBX3 := Lib.hid (HBX2.out.kept k3 (by simp))
 have RO := Lib.hid ro
 have RE := Lib.hid re
 clear k3 HR2 HBX2 K2 HS1 rs ro re x0 x1 x2 x3 x4
 simp only []
 have x0 := HBX3.out.cell 0
 have x1 := HBX3.out.cell 1
 have x2 := HBX3.out.cell 2
 have x3 := HBX3.out.cell 3
 have x4 := HBX3.out.cell 4
 simp at x0 x1 x2 x3 x4
 have z3 := HBX3.out.lt
 go_wp2_with fail
 generalize hW4 : World.alloc w3 _ = W4
 have k4 : KeepsAll w3 W4 := by subst hW4; exact (Keeps.refl _ _).alloc _
 have hbs : Blk W4 w3.heap.size 31 #[.slice Ao (solveP (1 + q) p).1.os.length co, .slice Ae (solveP (1 + q) p).1.en.length ce, .int .i64 (solveP (1 + q) p).1.cost] := by subst hW4; exact Blk.new _ _ _
 have HR4 := Lib.hid (HR3.out.kept k4)
 have HBS4 := Lib.hid hbs
 have K4 := Lib.hid (K3.out.tr k4)
 have RO4 := Lib.hid (k4.rdo' ROrders.ok RO.out)
 have RE4 := Lib.hid (k4.rdo' RIntss.ok RE.out)
 clear hW4 k4 hbs HR3 HBX3 K3 RO RE x0 x1 x2 x3 x4 z3
 generalize w3.heap.size = z14 at *
 refine (HS2.out _ HR4.out).mono ?_
 rintro e w5 ⟨a, b, c, rfl, rs, k5⟩
 obtain ⟨Bo, c2, Be, c4, rfl, rfl, rfl, ro, re⟩ := rs.form
 have K5 := Lib.hid (K4.out.tr k5)
 have HBS5 := Lib.hid (HBS4.out.kept k5 (by simp))
 have RO5 := Lib.hid (k5.rdo' ROrders.ok RO4.out)
 have RE5 := Lib.hid (k5.rdo' RIntss.ok RE4.out)
 have SO := Lib.hid ro
 have SE := Lib.hid re
 clear k5 HBS4 K4 HS2 rs ro re RO4 RE4 HR4
 simp only []
 generalize solveP (1 + q) p = r at *
 go_wp2_with fail
 generalize hW6 : World.alloc w5 _ = W6
 have k6 : KeepsAll w5 W6 := by subst hW6; exact (Keeps.refl _ _).alloc _
 have hbt : Blk W6 w5.heap.size 31 #[.slice Bo r.1.os.length c2, .slice Be r.1.en.length c4, .int .i64 r.1.cost] := by subst hW6; exact Blk.new _ _ _
 have HBT6 := Lib.hid hbt
 have HBS6 := Lib.hid (HBS5.out.kept k6 (by simp))
 have K6 := Lib.hid (K5.out.tr k6)
 have RO6 := Lib.hid (k6.rdo' ROrders.ok RO5.out)
 have RE6 := Lib.hid (k6.rdo' RIntss.ok RE5.out)
 have SO6 := Lib.hid (k6.rdo' ROrders.ok SO.out)
 have SE6 := Lib.hid (k6.rdo' RIntss.ok SE.out)
 clear hW6 k6 hbt HBS5 K5 RO5 RE5 SO SE
 generalize w5.heap.size = z16 at *
 refine (awake37_any W6).mono ?_
 rintro e w7 ⟨rfl, k7⟩
 have HBT7 := HBT6.out.kept k7 (by simp)
 have HBS7 := HBS6.out.kept k7 (by simp)
 have s0 := HBS7.cell 0
 have s1 := HBS7.cell 1
 have s2 := HBS7.cell 2
 have t0 := HBT7.cell 0
 have t1 := HBT7.cell 1
 have t2 := HBT7.cell 2
 simp at s0 s1 s2 t0 t1 t2
 have HSS : Hid (Calls Try.prog 16 #[.agg #[.slice Ao r.1.os.length co, .slice Ae r.1.en.length ce, .int .i64 r.1.cost], .agg #[.slice Bo r.1.os.length c2, .slice Be r.1.en.length c4, .int .i64 r.1.cost]] w7 fun e w' => e = .returned (.bool true) ∧ KeepsAll w7 w') :=
  SameSol_same r.1 Ao Bo Ae Be co c2 ce c4 w7 (k7.rdo' ROrders.ok RO6.out) (k7.rdo' ROrders.ok SO6.out) (k7.rdo' RIntss.ok RE6.out) (k7.rdo' RIntss.ok SE6.out)
 have K7 := Lib.hid (K6.out.tr k7)
 clear k7 HBT7 HBS7 RO6 RE6 SO6 SE6 K6 HBT6 HBS6
 go_wp2_with fail
 refine HSS.out.mono ?_
 rintro e w8 ⟨rfl, k8⟩
 have K8 := Lib.hid (K7.out.tr k8)
 clear k8 HSS s0 s1 s2 t0 t1 t2
 go_wp2
 go_ret
 exact ⟨rfl, K8.out⟩

open Go.ChangeShapes Go.WideShapes Go.ChangeAt Go.RowKit

theorem rowOwn : ownKnob Try.prog.godebug = none := by kernel_rfl
theorem rowLaid : laidOutB Try.prog = true := by kernel_rfl

theorem cell_lt {w : World} {p : Addr} {v : Value} (h : w.cell? p = some v) : p.block < w.heap.size := by
 rcases Nat.lt_or_ge p.block w.heap.size with h1 | h1
 ·exact h1
 ·have : w.heap[p.block]? = none := Array.getElem?_eq_none h1
  simp [World.cell?, this] at h

theorem ints_of_row {W : World} {a : Option Addr} {len cap : Nat} {zs : List Int}
  (h : (a = none ∧ len = 0 ∧ cap = 0 ∧ zs = []) ∨ ∃ x, a = some x ∧ len ≤ cap ∧ cap ≤ maxLen ∧ zs.length = cap ∧ (∀ i, i < zs.length → W.cell? (x.add i) = some (.int .i64 (zs.getD i 0)))) :
  ∃ l : List Int, len = l.length ∧ RInts W (Old W) [.slice a l.length cap] l := by
 rcases h with ⟨rfl, rfl, rfl, rfl⟩ | ⟨x, rfl, hl, hm, hz, hc⟩
 ·exact ⟨[], rfl, RSlice.mkNil⟩
 ·have hlen : (zs.take len).length = len := by simp; omega
  refine ⟨zs.take len, hlen.symm, some x, cap, rfl, by omega, by simpa [maxLen] using hm, fun hne => ?_⟩
  have hpos : 0 < len := by
   rcases Nat.eq_zero_or_pos len with h0 | h0
   ·subst h0; simp at hne
   ·exact h0
  have h0 := hc 0 (by omega)
  obtain ⟨b, o, spot⟩ := x
  have hspot : spot = none := by simpa [Addr.add] using World.cell?_spot h0
  subst hspot
  refine ⟨b, o, rfl, by have := cell_lt h0; show b < _; simpa [Addr.add] using this, fun j y hy => ?_⟩
  have hj := (List.getElem?_eq_some_iff.1 hy).1
  have hj2 : j < len := by omega
  refine ⟨[.int .i64 y], rfl, rfl, fun i u hu => ?_⟩
  have hi : i = 0 := by
   rcases i with _ | i
   ·rfl
   ·simp at hu
  subst hi
  simp at hu; subst hu
  have := hc j (by omega)
  rw [List.getElem?_take_of_lt hj2] at hy
  rw [List.getD_eq_getElem?_getD, hy] at this
  rcases j with _ | j
  ·simpa [Addr.add] using this
  ·simpa [Addr.add] using this

theorem trod_ints {H : Type} {enc : TypeId × Value → H} {W : World} {a : Option Addr} {len cap : Nat} {d : DataW H} {p : List MemPlace} (h : DataW.Trod enc Try.prog W 0 (fun _ => true) true 22 (.slice a len cap) d p) :
  ∃ l : List Int, len = l.length ∧ RInts W (Old W) [.slice a l.length cap] l := by
 obtain ⟨fuel, hf⟩ := h
 rcases open_ints Try.underlying22 Try.underlying3 (by kernel_rfl) hf with ⟨hcs, _⟩ | ⟨x, l, c, zs, hcs, _, hl, hm, hz, _, hcell, hwz⟩
 ·simp [Value.cells] at hcs
  obtain ⟨rfl, rfl, rfl⟩ := hcs
  exact ints_of_row (zs := []) (.inl ⟨rfl, rfl, rfl, rfl⟩)
 ·simp [Value.cells] at hcs
  obtain ⟨rfl, rfl, rfl⟩ := hcs
  exact ints_of_row (zs := zs) (.inr ⟨_, rfl, hl, hm, by simpa using hz, hcell⟩)

end Go.Proofs.Ytilbbpbjhoidhaa
