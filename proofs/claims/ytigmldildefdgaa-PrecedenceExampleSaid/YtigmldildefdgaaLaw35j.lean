/- The statement PrecedenceExample: its function returns true. No condition. -/
import Derived.Test.YtigmldildefdgaaCycB
import Derived.Test.YtigmldildefdgaaTimesA
namespace Go.Proofs.Ytigmldildefdgaa
open Go.RowKit

def orE : List Order := [⟨1, [⟨0, 0⟩, ⟨1, 1⟩]⟩, ⟨2, [⟨1, 0⟩, ⟨0, 1⟩]⟩]
theorem lineE : lineP ex35 orE [0, 0] = ([], false) := by decide +kernel
theorem checkE : checkO ex35 orE = true := by decide +kernel
theorem goodE : good ex35 [0, 0] = true := by decide +kernel
theorem timesE : timesP ex35 orE [0, 0] 0 = ([], 13) := by
  have h : okP ex35 orE [0, 0] = false := by decide +kernel
  unfold timesP
  rw [checkE, goodE, h]; rfl
theorem totalE : total ex35 (runP ex35 orE [0, 0]).2 ≠ 0 := by decide +kernel
theorem arcsE : refArcs ex35 orE = [⟨⟨0, 0⟩, ⟨0, 1⟩, 0⟩, ⟨⟨0, 1⟩, ⟨0, 2⟩, 0⟩, ⟨⟨1, 0⟩, ⟨1, 1⟩, 0⟩, ⟨⟨1, 1⟩, ⟨1, 2⟩, 0⟩, ⟨⟨0, 1⟩, ⟨1, 1⟩, 0⟩, ⟨⟨1, 1⟩, ⟨0, 1⟩, 0⟩] := by decide +kernel
theorem cycE {cy : List Ref} (h : CycOk ex35 orE [0, 0] cy) : cy.length = 2 := by
  have key : ∀ (i : Nat) u, cy[i]? = some u → (u = ⟨0, 1⟩ ∨ u = ⟨1, 1⟩) ∧ u ∉ cy.take i := fun i u hu => by
    obtain ⟨_, hd, hn, v, _, a, ha, hf, _⟩ := h.2 i u hu
    refine ⟨?_, hn⟩
    rw [arcsE] at ha
    simp only [List.mem_cons, List.not_mem_nil, or_false] at ha
    rcases ha with rfl | rfl | rfl | rfl | rfl | rfl
    · simp only at hf; subst hf; exact absurd hd (by decide)
    · exact .inl hf.symm
    · simp only at hf; subst hf; exact absurd hd (by decide)
    · exact .inr hf.symm
    · exact .inl hf.symm
    · exact .inr hf.symm
  have hpos := h.1
  match cy, h, key, hpos with
  | [x], h, key, _ =>
    exfalso
    obtain ⟨_, _, _, v, hv, a, ha, hf, ht⟩ := h.2 0 x rfl
    simp at hv
    subst hv
    rw [arcsE] at ha
    simp only [List.mem_cons, List.not_mem_nil, or_false] at ha
    rcases ha with rfl | rfl | rfl | rfl | rfl | rfl <;> (simp only at hf ht; rw [← hf] at ht; exact absurd ht (by decide))
  | [x, y], _, _, _ => rfl
  | x :: y :: z :: r, h, key, _ =>
    exfalso
    have h0 := key 0 x rfl
    have h1 := key 1 y rfl
    have h2 := key 2 z rfl
    have e1 : y ≠ x := fun e => h1.2 (by simp [e])
    have e2 : z ≠ x := fun e => h2.2 (by simp [e])
    have e3 : z ≠ y := fun e => h2.2 (by simp [e])
    rcases h0.1 with rfl | rfl <;> rcases h1.1 with rfl | rfl <;> rcases h2.1 with rfl | rfl <;> first | exact absurd rfl e1 | exact absurd rfl e2 | exact absurd rfl e3
theorem orE_rd (w : World) (t t' : TypeId) : ∀ W, W = ((w.alloc (.cells (cellsR [⟨0, 0⟩, ⟨1, 1⟩]) t)).alloc (.cells (cellsR [⟨1, 0⟩, ⟨0, 1⟩]) t)).alloc (.cells #[.int .i64 1, .slice (some ⟨w.heap.size, 0, none⟩) 2 2, .int .i64 2, .slice (some ⟨w.heap.size + 1, 0, none⟩) 2 2] t') →
    ROrders W (Old W) [.slice (some ⟨w.heap.size + 2, 0, none⟩) 2 2] orE ∧ KeepsAll w W := by
  rintro W rfl
  refine ⟨?_, (((Keeps.refl _ _).alloc _).alloc _).alloc _⟩
  have B1 := ((Blk.new w t (cellsR [⟨0, 0⟩, ⟨1, 1⟩])).alloc (.cells (cellsR [⟨1, 0⟩, ⟨0, 1⟩]) t)).alloc (.cells #[.int .i64 1, .slice (some ⟨w.heap.size, 0, none⟩) 2 2, .int .i64 2, .slice (some ⟨w.heap.size + 1, 0, none⟩) 2 2] t')
  have B2 := (Blk.new' (w.alloc (.cells (cellsR [⟨0, 0⟩, ⟨1, 1⟩]) t)) t (cellsR [⟨1, 0⟩, ⟨0, 1⟩]) (g := w.heap.size + 1) (by simp)).alloc (.cells #[.int .i64 1, .slice (some ⟨w.heap.size, 0, none⟩) 2 2, .int .i64 2, .slice (some ⟨w.heap.size + 1, 0, none⟩) 2 2] t')
  have B3 := Blk.new' ((w.alloc (.cells (cellsR [⟨0, 0⟩, ⟨1, 1⟩]) t)).alloc (.cells (cellsR [⟨1, 0⟩, ⟨0, 1⟩]) t)) t' #[.int .i64 1, .slice (some ⟨w.heap.size, 0, none⟩) 2 2, .int .i64 2, .slice (some ⟨w.heap.size + 1, 0, none⟩) 2 2] (g := w.heap.size + 2) (by simp)
  exact RSlice.ofBlk B3 B3.lt [[.int .i64 1, .slice (some ⟨w.heap.size, 0, none⟩) 2 2], [.int .i64 2, .slice (some ⟨w.heap.size + 1, 0, none⟩) 2 2]] orE rfl
    ⟨⟨rfl, _, rfl, ref2_rd [⟨0, 0⟩, ⟨1, 1⟩] B1 B1.lt (by simp)⟩, ⟨rfl, _, rfl, ref2_rd [⟨1, 0⟩, ⟨0, 1⟩] B2 B2.lt (by simp)⟩, trivial⟩ (by simp [orE])

set_option maxRecDepth 100000 in
set_option maxHeartbeats 1000000 in
theorem PrecedenceExample_any (w : World) : Calls Try.prog 11 #[] w fun e w' => e = .returned (.bool true) ∧ KeepsAll w w' := by
  go_enter Try.func11, Try.ntmps11
  go_wp2_with fail
  generalize hW1 : World.alloc (World.alloc (World.alloc w _) _) _ = W1
  obtain ⟨ro, k1⟩ := orE_rd w _ _ W1 hW1.symm
  generalize hW2 : World.alloc W1 _ = W2
  have KW2 : KeepsAll W1 W2 := by subst hW2; exact (Keeps.refl _ _).alloc _
  have hz : W1.heap.size = w.heap.size + 3 := by subst hW1; simp
  have R3 : RInts W2 (Old W2) [.slice (some ⟨w.heap.size + 3, 0, none⟩) 2 2] [0, 0] := by
    subst hW2
    exact RInts.ofBlk [0, 0] (Blk.new' _ _ _ hz.symm) (by show _ < _; simp; omega) (by simp)
  have O2 := Lib.hid (KW2.rdo' ROrders.ok ro)
  have I2 := Lib.hid R3
  have K2 := Lib.hid (k1.tr KW2)
  clear hW1 hW2 ro k1 KW2 R3 hz
  rw [show w.heap.size + 2 = w.heap.size + 1 + 1 from rfl] at O2
  rw [show w.heap.size + 3 = w.heap.size + 1 + 1 + 1 from rfl] at I2
  generalize w.heap.size + 1 + 1 + 1 = zi at *
  generalize w.heap.size + 1 + 1 = zo at *
  refine (example35_any W2).mono ?_
  rintro e w3 ⟨b3, rfl, r3, k3⟩
  have K3 := Lib.hid k3
  have HLN := Lib.hid (Line_any ex35 orE [0, 0] _ _ _ 2 2 2 w3 r3 (k3.rdo' ROrders.ok O2.out) (k3.rdo' RInts.ok I2.out))
  clear r3 k3
  go_wp2_with fail
  refine HLN.out.mono ?_
  rintro e w4 ⟨v4, rfl, rv, k4⟩
  rw [lineE]
  simp only []
  have K4 := Lib.hid (K3.out.tr k4)
  clear rv k4 HLN K3
  go_wp2_with fail
  refine (example35_any w4).mono ?_
  rintro e w5 ⟨b5, rfl, r5, k5⟩
  have K5 := Lib.hid (K4.out.tr k5)
  have HCY := Lib.hid (Cycle_any ex35 orE [0, 0] _ _ _ 2 2 2 w5 r5 (K5.out.rdo' ROrders.ok O2.out) (K5.out.rdo' RInts.ok I2.out) checkE goodE)
  clear r5 k5 K4
  go_wp2_with fail
  refine HCY.out.mono ?_
  rintro e w6 ⟨v6, cy, rfl, rc, k6, hcase⟩
  have hok : CycOk ex35 orE [0, 0] cy := by
    rcases hcase with ⟨h0, _⟩ | ⟨_, h1⟩
    · exact absurd h0 totalE
    · exact h1
  have hlen := cycE hok
  obtain ⟨Ac, cc, rfl, _, _⟩ := rc.val
  rw [hlen]
  have HLC := Lib.hid hlen
  have HOK := Lib.hid hok
  have RC := Lib.hid rc
  have K6 := Lib.hid (K5.out.tr k6)
  clear rc k6 hcase hok hlen HCY K5
  go_wp2_with fail
  refine (example35_any w6).mono ?_
  rintro e w7 ⟨b7, rfl, r7, k7⟩
  have K7 := Lib.hid (K6.out.tr k7)
  have RC7 := Lib.hid (k7.rdo' RRefs.ok RC.out)
  have HTM := Lib.hid (Times_any ex35 orE [0, 0] 0 _ _ _ 2 2 2 w7 r7 (K7.out.rdo' ROrders.ok O2.out) (K7.out.rdo' RInts.ok I2.out))
  rw [timesE] at HTM
  clear r7 k7 K6 RC
  go_wp2_with fail
  refine HTM.out.mono ?_
  rintro e w8 ⟨v8, rfl, rt, k8⟩
  simp only []
  have K8 := Lib.hid (K7.out.tr k8)
  have RC8 := Lib.hid (k8.rdo' RRefs.ok RC7.out)
  clear rt k8 HTM K7 RC7
  go_wp2_with fail
  refine (awake35_any w8).mono ?_
  rintro e w9 ⟨rfl, k9⟩
  have K9 := Lib.hid (K8.out.tr k9)
  have RC9 := Lib.hid (k9.rdo' RRefs.ok RC8.out)
  clear k9 K8 RC8
  go_wp2_with fail
  refine (example35_any w9).mono ?_
  rintro e w10 ⟨b10, rfl, r10, k10⟩
  have K10 := Lib.hid (K9.out.tr k10)
  have HIC : Hid (Calls Try.prog 37 #[.slice (some ⟨b10, 0, none⟩) 2 2, .slice (some ⟨zo, 0, none⟩) 2 2, .slice (some ⟨zi, 0, none⟩) 2 2, .slice Ac 2 cc] w10 fun e w' => e = .returned (.bool true) ∧ KeepsAll w10 w') := by
    have q := IsCycle_true ex35 orE [0, 0] cy (some ⟨b10, 0, none⟩) (some ⟨zo, 0, none⟩) (some ⟨zi, 0, none⟩) Ac 2 2 2 cc w10 r10 (K10.out.rdo' ROrders.ok O2.out) (K10.out.rdo' RInts.ok I2.out) (k10.rdo' RRefs.ok RC9.out) checkE (good_Gd.1 goodE) HOK.out
    rw [HLC.out] at q
    exact q
  clear r10 k10 K9 RC9
  go_wp2_with fail
  refine HIC.out.mono ?_
  rintro e w11 ⟨rfl, k11⟩
  have K11 := Lib.hid (K2.out.tr (K10.out.tr k11))
  clear k11 K10 HIC
  go_wp2
  go_ret
  exact ⟨rfl, K11.out⟩

end Go.Proofs.Ytigmldildefdgaa
