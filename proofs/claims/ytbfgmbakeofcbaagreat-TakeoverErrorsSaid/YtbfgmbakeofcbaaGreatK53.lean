/- The statement TakeoverErrors: its function returns true. No condition beyond the arguments' reading. From a row's argument that is a slice of slices or of structs to its reading. No condition. -/
import Derived.Test.YtbfgmbakeofcbaaGreatK46
import Derived.Test.YtbfgmbakeofcbaaGreatK51
import Derived.Test.YtbfgmbakeofcbaaGreatK30
import Derived.Test.YtbfgmbakeofcbaaGreatK14
import Derived.Test.YtbfgmbakeofcbaaGreatK32
import Derived.Deep.Slices
import Derived.ChangeArms
import Derived.DataReads
namespace Go.Proofs.YtbfgmbakeofcbaaGreat
open Go.RowKit

set_option maxRecDepth 100000 in
set_option maxHeartbeats 4000000 in
theorem TakeoverErrors_any (lr : List (List Stage)) (lp lx lo : List Int) (os : List Order) (A0 A1 A2 A3 A4 : Option Addr) (c0 c1 c2 c3 c4 : Nat) (budget : Int) (w : World) (h0 : RPaths w (Old w) [.slice A0 lr.length c0] lr) (h1 : RInts w (Old w) [.slice A1 lp.length c1] lp) (h2 : RInts w (Old w) [.slice A2 lx.length c2] lx) (h3 : RInts w (Old w) [.slice A3 lo.length c3] lo) (h4 : ROrders w (Old w) [.slice A4 os.length c4] os) :
    Calls Tryz.prog 3 #[.slice A0 lr.length c0, .slice A1 lp.length c1, .slice A2 lx.length c2, .slice A3 lo.length c3, .slice A4 os.length c4, .int .i64 budget] w fun e w' => e = .returned (.bool true) ∧ KeepsAll w w' := by
  have H0 := Lib.hid h0; clear h0
  have H1 := Lib.hid h1; clear h1
  have H2 := Lib.hid h2; clear h2
  have H3 := Lib.hid h3; clear h3
  have H4 := Lib.hid h4; clear h4
  go_enter Tryz.func3, Tryz.ntmps3
  go_wp2_with fail
  refine (Paths_any lp A1 c1 w H1.out).mono ?_
  rintro e w1 ⟨v, ps, rfl, rp, hm, k1⟩
  obtain ⟨B, d, rfl⟩ := rp.form
  have K1 := Lib.hid k1
  have M := Lib.hid hm
  have P1 := Lib.hid (RPaths.ok.mono rp (S' := Old w1) (fun b hb => hb.2) (fun _ _ => rfl))
  clear rp hm k1
  have hps1 := M.out.1
  generalize budget.tmod 60 = bb
  go_wp2_with fail
  refine (Identify_any lr lx lo bb A0 A2 A3 c0 c2 c3 w1 (K1.out.rdo' RPaths.ok H0.out) (K1.out.rdo' RInts.ok H2.out) (K1.out.rdo' RInts.ok H3.out)).mono ?_
  rintro e w2 ⟨v2, rfl, r2, k2⟩
  have K2 := Lib.hid (K1.out.tr k2)
  have P2 := Lib.hid (k2.rdo' RPaths.ok P1.out)
  clear r2 k2
  go_wp2_with fail
  refine (RefIdentify_any lr lx lo bb A0 A2 A3 c0 c2 c3 w2 (K2.out.rdo' RPaths.ok H0.out) (K2.out.rdo' RInts.ok H2.out) (K2.out.rdo' RInts.ok H3.out)).mono ?_
  rintro e w3 ⟨v3, rfl, r3, k3⟩
  have K3 := Lib.hid (K2.out.tr k3)
  have P3 := Lib.hid (k3.rdo' RPaths.ok P2.out)
  clear r3 k3
  generalize (identify lr lx lo bb).2.1 = n1 at *
  generalize (identify lr lx lo bb).2.2 = e1 at *
  go_wp2_with fail
  refine (Identify_any ps lx lo bb B A2 A3 d c2 c3 w3 (P3.out) (K3.out.rdo' RInts.ok H2.out) (K3.out.rdo' RInts.ok H3.out)).mono ?_
  rintro e w4 ⟨v4, rfl, r4, k4⟩
  have K4 := Lib.hid (K3.out.tr k4)
  have P4 := Lib.hid (k4.rdo' RPaths.ok P3.out)
  clear r4 k4
  go_wp2_with fail
  refine (RefIdentify_any ps lx lo bb B A2 A3 d c2 c3 w4 (P4.out) (K4.out.rdo' RInts.ok H2.out) (K4.out.rdo' RInts.ok H3.out)).mono ?_
  rintro e w5 ⟨v5, rfl, r5, k5⟩
  have K5 := Lib.hid (K4.out.tr k5)
  have P5 := Lib.hid (k5.rdo' RPaths.ok P4.out)
  clear r5 k5
  generalize (identify ps lx lo bb).2.1 = n2 at *
  generalize (identify ps lx lo bb).2.2 = e2 at *
  go_wp2_with fail
  refine (TOrders_any ps os lx bb B A4 A2 d c4 c2 w5 M.out P5.out (K5.out.rdo' ROrders.ok H4.out) (K5.out.rdo' RInts.ok H2.out)).mono ?_
  rintro e w6 ⟨v6, rfl, r6, k6⟩
  have K6 := Lib.hid (K5.out.tr k6)
  have P6 := Lib.hid (k6.rdo' RPaths.ok P5.out)
  clear r6 k6
  have HRO := Lib.hid (RefOrders_any ps os lx bb B A4 A2 d c4 c2 w6 hps1 P6.out (K6.out.rdo' ROrders.ok H4.out) (K6.out.rdo' RInts.ok H2.out))
  generalize (takeP ps os lx bb).2.1 = n3 at *
  generalize (takeP ps os lx bb).2.2 = e3 at *
  go_wp2_with fail
  refine HRO.out.mono ?_
  rintro e w7 ⟨v7, rfl, r7, k7⟩
  have K7 := Lib.hid (K6.out.tr k7)
  clear r7 k7 HRO K6 P6 K5 P5 K4 P4 K3 P3 K2 P2 K1 P1
  go_wp2_with fail
  refine (awake38_any w7).mono ?_
  rintro e w8 ⟨rfl, k8⟩
  have K8 := Lib.hid (K7.out.tr k8)
  clear k8 K7
  go_wp2
  go_ret
  exact ⟨by simp, K8.out⟩

open Go.ChangeShapes Go.WideShapes Go.ChangeAt Go.RowKit

section
variable {H : Type} {enc : TypeId × Value → H} {W : World}
/-- the cells of a value of type t read by E -/
def Opens {α : Type} (enc : TypeId × Value → H) (W : World) (t size : Nat) (E : Rd α) : Prop := ∀ (n : Nat) (cs : List Value) (x : DataW H × List MemPlace), DataW.trod enc Tryz.prog W 0 (fun _ => true) true n t cs = some x → cs.length = size ∧ ∃ y, E W (Old W) cs y
theorem opens_int : Opens enc W 3 1 RInt := fun n cs x h => by
  obtain ⟨z, rfl, _, _⟩ := DataW.trod_int Tryz.underlying3 h
  exact ⟨rfl, z, rfl⟩
theorem add_none (b o j : Nat) : (Addr.mk b o none).add j = ⟨b, o + j, none⟩ := by
  unfold Addr.add; split
  · subst_vars; rfl
  · simp
theorem opens_slice {α : Type} {T t size : Nat} {E : Rd α} (ht : Tryz.prog.underlying T = some (.slice t)) (hsz : Tryz.prog.cellsOf t = size) (hp : 0 < size) (hE : Opens enc W t size E) : Opens enc W T 1 (RSlice size E) := fun n cs x h => by
  rcases Go.Deep.open_slice ht h with ⟨rfl, _⟩ | ⟨a, len, cap, m, n', D, Pl, rfl, _, hl, hm, hmm, _, hel⟩
  · exact ⟨rfl, [], RSlice.mkNil⟩
  · refine ⟨rfl, ?_⟩
    rw [hsz] at hel
    have hmc : m = cap := hmm
    by_cases h0 : len = 0
    · subst h0
      exact ⟨[], some a, cap, rfl, Nat.zero_le _, by simpa [maxLen] using hm, fun h => absurd rfl h⟩
    · obtain ⟨cs0, hc0, _⟩ := hel 0 (by omega)
      obtain ⟨_, hl0, hcell0⟩ := World.cells?_some hc0
      have hcc := hcell0 0 hp
      have hs0 : cs0[0]? = some (cs0[0]'(by omega)) := List.getElem?_eq_getElem _
      rw [hs0] at hcc
      obtain ⟨b, o, spot⟩ := a
      have hspot : spot = none := by simpa [Addr.add] using World.cell?_spot hcc
      subst hspot
      have hblk : b < W.heap.size := by have := cell_lt hcc; simpa [Addr.add] using this
      obtain ⟨l, hl1, hl2⟩ := list_choose (P := fun j y => ∃ es, es.length = size ∧ E W (Old W) es y ∧ ∀ i u, es[i]? = some u → W.cell? ⟨b, o + (j * size + i), none⟩ = some u) len (fun j hj => by
        obtain ⟨cs', hc, htr⟩ := hel j (by omega)
        obtain ⟨_, hlc, hcell⟩ := World.cells?_some hc
        obtain ⟨hl', y, hy⟩ := hE n' cs' _ htr
        refine ⟨y, cs', hl', hy, fun i u hu => ?_⟩
        have hi : i < size := by rw [← hl']; exact getElem?_lt hu
        have := hcell i hi
        rw [add_none, add_none, hu, Nat.add_assoc] at this
        exact this)
      exact ⟨l, some ⟨b, o, none⟩, cap, by rw [hl1], by omega, by simpa [maxLen] using hm, fun _ => ⟨b, o, rfl, hblk, hl2⟩⟩
theorem four {cs : List Value} (h : cs.length = 4) : ∃ a b c d, cs = [a, b, c, d] := by
  match cs, h with
  | [a, b, c, d], _ => exact ⟨a, b, c, d, rfl⟩
theorem two {cs : List Value} (h : cs.length = 2) : ∃ a b, cs = [a, b] := by
  match cs, h with
  | [a, b], _ => exact ⟨a, b, rfl⟩
theorem some_of {α : Type} {xs : List α} {i n : Nat} {z : Option α} (hl : xs.length = n) (hi : i < n) (h : z = xs[i]?) : ∃ x, z = some x := ⟨xs[i]'(by omega), by rw [h]; exact List.getElem?_eq_getElem _⟩
theorem opens_ints : Opens enc W 23 1 RInts := opens_slice Tryz.underlying23 (by kernel_rfl) (by omega) opens_int
theorem opens_stage : Opens enc W 51 4 RStage := fun n cs x h => by
  obtain ⟨xs, m, _, _, hl, hxl, hf⟩ := DataW.trod_struct Tryz.underlying51 h
  have hc : Tryz.prog.cellsOf 51 = 4 := by kernel_rfl
  have hci : Tryz.prog.cellsOf 3 = 1 := by kernel_rfl
  have hcs : Tryz.prog.cellsOf 23 = 1 := by kernel_rfl
  rw [hc] at hl
  obtain ⟨a, b, c, d, rfl⟩ := four hl
  refine ⟨rfl, ?_⟩
  have q0 : DataW.trod enc Tryz.prog W 0 (fun _ => true) true m 3 (([a, b, c, d].drop 0).take (Tryz.prog.cellsOf 3)) = xs[0]? := hf 0 _ rfl
  have q1 : DataW.trod enc Tryz.prog W 0 (fun _ => true) true m 23 (([a, b, c, d].drop 1).take (Tryz.prog.cellsOf 23)) = xs[1]? := hf 1 _ rfl
  have q2 : DataW.trod enc Tryz.prog W 0 (fun _ => true) true m 3 (([a, b, c, d].drop 2).take (Tryz.prog.cellsOf 3)) = xs[2]? := hf 2 _ rfl
  have q3 : DataW.trod enc Tryz.prog W 0 (fun _ => true) true m 3 (([a, b, c, d].drop 3).take (Tryz.prog.cellsOf 3)) = xs[3]? := hf 3 _ rfl
  rw [hci] at q0 q2 q3
  rw [hcs] at q1
  obtain ⟨x0, h0⟩ := some_of hxl (i := 0) (by simp) q0
  obtain ⟨x1, h1⟩ := some_of hxl (i := 1) (by simp) q1
  obtain ⟨x2, h2⟩ := some_of hxl (i := 2) (by simp) q2
  obtain ⟨x3, h3⟩ := some_of hxl (i := 3) (by simp) q3
  obtain ⟨z0, e0, _, _⟩ := DataW.trod_int Tryz.underlying3 h0
  obtain ⟨_, z1, e1⟩ := opens_ints m _ _ h1
  obtain ⟨z2, e2, _, _⟩ := DataW.trod_int Tryz.underlying3 h2
  obtain ⟨z3, e3, _, _⟩ := DataW.trod_int Tryz.underlying3 h3
  injection e0 with e0; injection e2 with e2; injection e3 with e3
  subst e0 e2 e3
  exact ⟨⟨z0, z1, z2, z3⟩, b, rfl, e1⟩
theorem opens_ref : Opens enc W 69 2 RRef := fun n cs x h => by
  obtain ⟨xs, m, _, _, hl, hxl, hf⟩ := DataW.trod_struct Tryz.underlying69 h
  have hc : Tryz.prog.cellsOf 69 = 2 := by kernel_rfl
  have hci : Tryz.prog.cellsOf 3 = 1 := by kernel_rfl
  rw [hc] at hl
  obtain ⟨a, b, rfl⟩ := two hl
  refine ⟨rfl, ?_⟩
  have q0 : DataW.trod enc Tryz.prog W 0 (fun _ => true) true m 3 (([a, b].drop 0).take (Tryz.prog.cellsOf 3)) = xs[0]? := hf 0 _ rfl
  have q1 : DataW.trod enc Tryz.prog W 0 (fun _ => true) true m 3 (([a, b].drop 1).take (Tryz.prog.cellsOf 3)) = xs[1]? := hf 1 _ rfl
  rw [hci] at q0 q1
  obtain ⟨x0, h0⟩ := some_of hxl (i := 0) (by simp) q0
  obtain ⟨x1, h1⟩ := some_of hxl (i := 1) (by simp) q1
  obtain ⟨z0, e0, _, _⟩ := DataW.trod_int Tryz.underlying3 h0
  obtain ⟨z1, e1, _, _⟩ := DataW.trod_int Tryz.underlying3 h1
  injection e0 with e0; injection e1 with e1
  subst e0 e1
  exact ⟨⟨z0, z1⟩, rfl⟩
theorem opens_refs : Opens enc W 41 1 RRefs := opens_slice Tryz.underlying41 (by kernel_rfl) (by omega) opens_ref
theorem opens_order : Opens enc W 66 2 ROrder := fun n cs x h => by
  obtain ⟨xs, m, _, _, hl, hxl, hf⟩ := DataW.trod_struct Tryz.underlying66 h
  have hc : Tryz.prog.cellsOf 66 = 2 := by kernel_rfl
  have hci : Tryz.prog.cellsOf 3 = 1 := by kernel_rfl
  have hcs : Tryz.prog.cellsOf 41 = 1 := by kernel_rfl
  rw [hc] at hl
  obtain ⟨a, b, rfl⟩ := two hl
  refine ⟨rfl, ?_⟩
  have q0 : DataW.trod enc Tryz.prog W 0 (fun _ => true) true m 3 (([a, b].drop 0).take (Tryz.prog.cellsOf 3)) = xs[0]? := hf 0 _ rfl
  have q1 : DataW.trod enc Tryz.prog W 0 (fun _ => true) true m 41 (([a, b].drop 1).take (Tryz.prog.cellsOf 41)) = xs[1]? := hf 1 _ rfl
  rw [hci] at q0
  rw [hcs] at q1
  obtain ⟨x0, h0⟩ := some_of hxl (i := 0) (by simp) q0
  obtain ⟨x1, h1⟩ := some_of hxl (i := 1) (by simp) q1
  obtain ⟨z0, e0, _, _⟩ := DataW.trod_int Tryz.underlying3 h0
  obtain ⟨_, z1, e1⟩ := opens_refs m _ _ h1
  injection e0 with e0
  subst e0
  exact ⟨⟨z0, z1⟩, b, rfl, e1⟩
theorem opens_paths : Opens enc W 22 1 RPaths := opens_slice Tryz.underlying22 (by kernel_rfl) (by omega) (opens_slice Tryz.underlying49 (by kernel_rfl) (by omega) opens_stage)
theorem opens_orders : Opens enc W 24 1 ROrders := opens_slice Tryz.underlying24 (by kernel_rfl) (by omega) opens_order

theorem trod_paths {a : Option Addr} {len cap : Nat} {d : DataW H} {p : List MemPlace} (h : DataW.Trod enc Tryz.prog W 0 (fun _ => true) true 22 (.slice a len cap) d p) : ∃ l : List (List Stage), len = l.length ∧ RPaths W (Old W) [.slice a l.length cap] l := by
  obtain ⟨fuel, hf⟩ := h
  obtain ⟨_, l, hl⟩ := opens_paths fuel _ _ hf
  have e : (Value.slice a len cap).cells.toList = [.slice a len cap] := rfl
  rw [e] at hl
  have := hl.len; subst this
  exact ⟨l, rfl, hl⟩
theorem trod_orders {a : Option Addr} {len cap : Nat} {d : DataW H} {p : List MemPlace} (h : DataW.Trod enc Tryz.prog W 0 (fun _ => true) true 24 (.slice a len cap) d p) : ∃ l : List Order, len = l.length ∧ ROrders W (Old W) [.slice a l.length cap] l := by
  obtain ⟨fuel, hf⟩ := h
  obtain ⟨_, l, hl⟩ := opens_orders fuel _ _ hf
  have e : (Value.slice a len cap).cells.toList = [.slice a len cap] := rfl
  rw [e] at hl
  have := hl.len; subst this
  exact ⟨l, rfl, hl⟩
end

end Go.Proofs.YtbfgmbakeofcbaaGreat
