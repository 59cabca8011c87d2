/- Contracts of the examples and of awake of chapter 35, and of Same of references. Conditions: as each theorem says. -/
import Derived.Test.YtigmldildefdgaaLineF
namespace Go.Proofs.Ytigmldildefdgaa
open Go.RowKit

set_option maxHeartbeats 400000 in
theorem SameRef_any (x y : List Ref) (A A2 : Option Addr) (c c2 : Nat) (w : World) (S S2 : Foot) (h : RRefs w S [.slice A x.length c] x) (h2 : RRefs w S2 [.slice A2 y.length c2] y) :
    Calls Try.prog 44 #[.slice A x.length c, .slice A2 y.length c2] w fun e w' => e = .returned (.bool (decide (x = y))) ∧ ∃ n, w' = w.drewN n := by
  have hc := h.caps
  have hc2 := h2.caps
  have H := Lib.hid h; clear h
  have H2 := Lib.hid h2; clear h2
  by_cases g1 : x.length = y.length
  · have g1' : ((x.length : Int) != (y.length : Int)) = false := by simp; omega
    have G1 := Lib.hid g1; clear g1
    have l1 : x.length ≤ y.length := by rw [G1.out]; exact Nat.le_refl _
    have l2 : y.length ≤ x.length := by rw [G1.out]; exact Nat.le_refl _
    go_enter Try.func44, Try.ntmps44
    go_wp2
    go_loopw [13] (fun i wr => ∃ k : Nat, k ≤ x.length ∧ i = .int .i64 k ∧ x.take k = y.take k ∧ ∃ n, wr = w.drewN n) (fun i _ => x.length - (intOf i).toNat)
    case atStart => exact ⟨0, Nat.zero_le _, rfl, rfl, 0, rfl⟩
    case round =>
      obtain ⟨k, hk, rfl, hinv, n, rfl⟩ := hrel
      have HI := Lib.hid hinv; clear hinv
      by_cases hlt : k < x.length
      · obtain ⟨b, o, u, rfl, _, hu, k1, k1'⟩ := RRefs.at_ H.out hlt
        obtain ⟨b2, o2, v, rfl, _, hv, k2, k2'⟩ := RRefs.at_ H2.out (k := k) (by omega)
        by_cases g2 : u = v
        · have Q : Hid (x.take (k + 1) = y.take (k + 1)) := by
            show x.take (k + 1) = y.take (k + 1)
            rw [List.take_add_one, List.take_add_one, HI.out, hu, hv, g2]
          subst g2
          clear hu hv
          go_wp2
          go_quiet (fail)
          go_wp2
          go_roundw
          case rel => exact ⟨k + 1, by omega, by go_num, Q.out, _, rfl⟩
          case measure => simp [intOf]; omega
        · have Q : Hid (decide (x = y) = false) := by
            show decide (x = y) = false
            simp only [decide_eq_false_iff_not]; rintro rfl
            exact g2 (same_of hu hv)
          have g3 : ¬ (u.tr = v.tr ∧ u.st = v.st) := fun h => g2 (by cases u; cases v; simp_all)
          clear hu hv g2
          by_cases g4 : u.tr = v.tr
          · have g5 : ¬ (u.st = v.st) := fun h => g3 ⟨g4, h⟩
            clear g3
            go_wp2
            go_quiet (fail)
            go_wp2
            go_ret
            exact ⟨by rw [Q.out]; rfl, _, drewNN _ _ _⟩
          · clear g3
            go_wp2
            go_quiet (fail)
            go_wp2
            go_ret
            exact ⟨by rw [Q.out]; rfl, _, drewNN _ _ _⟩
      · have Q : Hid (decide (x = y) = true) := by
          show decide (x = y) = true
          have := HI.out
          rw [List.take_of_length_le (by omega), List.take_of_length_le (by omega)] at this
          simpa using this
        go_wp2
        go_ret
        exact ⟨by rw [Q.out]; rfl, _, rfl⟩
  · have g1' : ((x.length : Int) != (y.length : Int)) = true := by simp; omega
    have Q : Hid (decide (x = y) = false) := by
      show decide (x = y) = false
      simp only [decide_eq_false_iff_not]; rintro rfl; exact g1 rfl
    go_enter Try.func44, Try.ntmps44
    go_wp2
    go_ret
    exact ⟨by rw [Q.out]; rfl, 0, rfl⟩

def st0 (a : Int) : Stage := ⟨a, [], 0, 0⟩
def ex35 : List (List Stage) := [[st0 1, st0 2], [st0 2, st0 1]]
def or35 : List Order := [⟨1, [⟨1, 1⟩, ⟨0, 0⟩]⟩, ⟨2, [⟨1, 0⟩, ⟨0, 1⟩]⟩]
theorem line35 : lineP ex35 or35 [-1, 0] = ([⟨1, 1⟩, ⟨1, 2⟩, ⟨0, 0⟩, ⟨0, 1⟩, ⟨0, 2⟩], true) := by decide +kernel
theorem check35 : checkO ex35 or35 = true := by decide +kernel

def stC2 (x y : Int) : Array Value := #[.int .i64 x, .slice none 0 0, .int .i64 0, .int .i64 0, .int .i64 y, .slice none 0 0, .int .i64 0, .int .i64 0]
theorem st2_rd {w : World} {S : Foot} {b : Nat} {t : TypeId} {x y : Int} (hb : Blk w b t (stC2 x y)) (hS : S b) : RPath w S [.slice (some ⟨b, 0, none⟩) 2 2] [st0 x, st0 y] :=
  RSlice.ofBlk hb hS [[.int .i64 x, .slice none 0 0, .int .i64 0, .int .i64 0], [.int .i64 y, .slice none 0 0, .int .i64 0, .int .i64 0]] [st0 x, st0 y] rfl
    ⟨⟨rfl, _, rfl, RSlice.mkNil⟩, ⟨rfl, _, rfl, RSlice.mkNil⟩, trivial⟩ (by simp)
theorem ex35_rd (w : World) (t t' : TypeId) : ∀ W, W = ((w.alloc (.cells (stC2 1 2) t)).alloc (.cells (stC2 2 1) t)).alloc (.cells #[.slice (some ⟨w.heap.size, 0, none⟩) 2 2, .slice (some ⟨w.heap.size + 1, 0, none⟩) 2 2] t') →
    RPaths W (Old W) [.slice (some ⟨w.heap.size + 2, 0, none⟩) 2 2] ex35 ∧ KeepsAll w W := by
  rintro W rfl
  refine ⟨?_, (((Keeps.refl _ _).alloc _).alloc _).alloc _⟩
  have B1 := ((Blk.new w t (stC2 1 2)).alloc (.cells (stC2 2 1) t)).alloc (.cells #[.slice (some ⟨w.heap.size, 0, none⟩) 2 2, .slice (some ⟨w.heap.size + 1, 0, none⟩) 2 2] t')
  have B2 := (Blk.new' (w.alloc (.cells (stC2 1 2) t)) t (stC2 2 1) (g := w.heap.size + 1) (by simp)).alloc (.cells #[.slice (some ⟨w.heap.size, 0, none⟩) 2 2, .slice (some ⟨w.heap.size + 1, 0, none⟩) 2 2] t')
  have B3 := Blk.new' ((w.alloc (.cells (stC2 1 2) t)).alloc (.cells (stC2 2 1) t)) t' #[.slice (some ⟨w.heap.size, 0, none⟩) 2 2, .slice (some ⟨w.heap.size + 1, 0, none⟩) 2 2] (g := w.heap.size + 2) (by simp)
  exact RSlice.ofBlk B3 B3.lt [[.slice (some ⟨w.heap.size, 0, none⟩) 2 2], [.slice (some ⟨w.heap.size + 1, 0, none⟩) 2 2]] ex35 rfl ⟨⟨rfl, st2_rd B1 B1.lt⟩, ⟨rfl, st2_rd B2 B2.lt⟩, trivial⟩ (by simp [ex35])
set_option maxRecDepth 100000 in
theorem example35_any (w : World) : Calls Try.prog 46 #[] w fun e w' => ∃ b, e = .returned (.slice (some ⟨b, 0, none⟩) 2 2) ∧ RPaths w' (Old w') [.slice (some ⟨b, 0, none⟩) 2 2] ex35 ∧ KeepsAll w w' := by
  go_enter Try.func46, Try.ntmps46
  go_wp2
  go_ret
  exact ⟨w.heap.size + 2, rfl, ex35_rd w _ _ _ rfl⟩

theorem ref2_rd {w : World} {S : Foot} {b : Nat} {t : TypeId} (l : List Ref) (hb : Blk w b t (cellsR l)) (hS : S b) (hl : l.length ≤ 1000) : RRefs w S [.slice (some ⟨b, 0, none⟩) l.length l.length] l := hb.refs hS (by omega)
theorem or35_rd (w : World) (t t' : TypeId) : ∀ W, W = ((w.alloc (.cells (cellsR [⟨1, 1⟩, ⟨0, 0⟩]) t)).alloc (.cells (cellsR [⟨1, 0⟩, ⟨0, 1⟩]) t)).alloc (.cells #[.int .i64 1, .slice (some ⟨w.heap.size, 0, none⟩) 2 2, .int .i64 2, .slice (some ⟨w.heap.size + 1, 0, none⟩) 2 2] t') →
    ROrders W (Old W) [.slice (some ⟨w.heap.size + 2, 0, none⟩) 2 2] or35 ∧ KeepsAll w W := by
  rintro W rfl
  refine ⟨?_, (((Keeps.refl _ _).alloc _).alloc _).alloc _⟩
  have B1 := ((Blk.new w t (cellsR [⟨1, 1⟩, ⟨0, 0⟩])).alloc (.cells (cellsR [⟨1, 0⟩, ⟨0, 1⟩]) t)).alloc (.cells #[.int .i64 1, .slice (some ⟨w.heap.size, 0, none⟩) 2 2, .int .i64 2, .slice (some ⟨w.heap.size + 1, 0, none⟩) 2 2] t')
  have B2 := (Blk.new' (w.alloc (.cells (cellsR [⟨1, 1⟩, ⟨0, 0⟩]) t)) t (cellsR [⟨1, 0⟩, ⟨0, 1⟩]) (g := w.heap.size + 1) (by simp)).alloc (.cells #[.int .i64 1, .slice (some ⟨w.heap.size, 0, none⟩) 2 2, .int .i64 2, .slice (some ⟨w.heap.size + 1, 0, none⟩) 2 2] t')
  have B3 := Blk.new' ((w.alloc (.cells (cellsR [⟨1, 1⟩, ⟨0, 0⟩]) t)).alloc (.cells (cellsR [⟨1, 0⟩, ⟨0, 1⟩]) t)) t' #[.int .i64 1, .slice (some ⟨w.heap.size, 0, none⟩) 2 2, .int .i64 2, .slice (some ⟨w.heap.size + 1, 0, none⟩) 2 2] (g := w.heap.size + 2) (by simp)
  exact RSlice.ofBlk B3 B3.lt [[.int .i64 1, .slice (some ⟨w.heap.size, 0, none⟩) 2 2], [.int .i64 2, .slice (some ⟨w.heap.size + 1, 0, none⟩) 2 2]] or35 rfl
    ⟨⟨rfl, _, rfl, ref2_rd [⟨1, 1⟩, ⟨0, 0⟩] B1 B1.lt (by simp)⟩, ⟨rfl, _, rfl, ref2_rd [⟨1, 0⟩, ⟨0, 1⟩] B2 B2.lt (by simp)⟩, trivial⟩ (by simp [or35])
set_option maxRecDepth 100000 in
theorem orders35_any (w : World) : Calls Try.prog 58 #[] w fun e w' => ∃ b, e = .returned (.slice (some ⟨b, 0, none⟩) 2 2) ∧ ROrders w' (Old w') [.slice (some ⟨b, 0, none⟩) 2 2] or35 ∧ KeepsAll w w' := by
  go_enter Try.func58, Try.ntmps58
  go_wp2
  go_ret
  exact ⟨w.heap.size + 2, rfl, or35_rd w _ _ _ rfl⟩

set_option maxRecDepth 100000 in
set_option maxHeartbeats 1000000 in
theorem awake35_any (w : World) : Calls Try.prog 25 #[] w fun e w' => e = .returned (.bool true) ∧ KeepsAll w w' := by
  have HL := Lib.hid line35
  have HC := Lib.hid check35
  go_enter Try.func25, Try.ntmps25
  go_wp2_with fail
  refine (example35_any w).mono ?_
  rintro e w1 ⟨b1, rfl, r1, k1⟩
  have R1 := Lib.hid r1; have K1 := Lib.hid k1
  clear r1 k1
  go_wp2_with fail
  refine (orders35_any w1).mono ?_
  rintro e w2 ⟨b2, rfl, r2, k2⟩
  have R12 := Lib.hid (k2.rdo' RPaths.ok R1.out); have R2 := Lib.hid r2; have K2 := Lib.hid (K1.out.tr k2)
  clear r2 k2 R1 K1
  go_wp2_with fail
  generalize hW : World.alloc w2 _ = W
  have KW : KeepsAll w2 W := by subst hW; exact (Keeps.refl _ _).alloc _
  have R3 : RInts W (Old W) [.slice (some ⟨w2.heap.size, 0, none⟩) 2 2] [-1, 0] := by
    subst hW
    exact RInts.ofBlk [-1, 0] (Blk.new _ _ _) (by show _ < _; simp) (by simp)
  have HLN := Lib.hid (Line_any ex35 or35 [-1, 0] _ _ _ 2 2 2 W (KW.rdo' RPaths.ok R12.out) (KW.rdo' ROrders.ok R2.out) R3)
  have K3 := Lib.hid (K2.out.tr KW)
  clear hW KW R3 R12 R2 K2
  refine HLN.out.mono ?_
  rintro e w3 ⟨v, rfl, rv, k3⟩
  rw [HL.out] at rv ⊢
  simp only [] at rv ⊢
  obtain ⟨Av, cv, hv, _, _⟩ := rv.val
  subst hv
  have RV := Lib.hid rv; have K4 := Lib.hid (K3.out.tr k3)
  clear rv k3 HLN K3
  go_wp2_with fail
  generalize hW : World.alloc w3 _ = W3
  have KW : KeepsAll w3 W3 := by subst hW; exact (Keeps.refl _ _).alloc _
  have RC : RRefs W3 (Old W3) [.slice (some ⟨w3.heap.size, 0, none⟩) 5 5] [⟨1, 1⟩, ⟨1, 2⟩, ⟨0, 0⟩, ⟨0, 1⟩, ⟨0, 2⟩] := by
    subst hW
    exact Blk.refs (l := [⟨1, 1⟩, ⟨1, 2⟩, ⟨0, 0⟩, ⟨0, 1⟩, ⟨0, 2⟩]) (Blk.new _ _ _) (by show _ < _; simp) (by simp)
  have HSM := Lib.hid (SameRef_any [⟨1, 1⟩, ⟨1, 2⟩, ⟨0, 0⟩, ⟨0, 1⟩, ⟨0, 2⟩] [⟨1, 1⟩, ⟨1, 2⟩, ⟨0, 0⟩, ⟨0, 1⟩, ⟨0, 2⟩] Av _ cv 5 W3 _ _ (KW.rdo' RRefs.ok RV.out) RC)
  have K5 := Lib.hid (K4.out.tr KW)
  clear hW KW RC RV K4
  refine HSM.out.mono ?_
  rintro e w4 ⟨rfl, n4, rfl⟩
  have hd : decide (([⟨1, 1⟩, ⟨1, 2⟩, ⟨0, 0⟩, ⟨0, 1⟩, ⟨0, 2⟩] : List Ref) = [⟨1, 1⟩, ⟨1, 2⟩, ⟨0, 0⟩, ⟨0, 1⟩, ⟨0, 2⟩]) = true := by simp
  rw [hd]
  have K6 := Lib.hid (K5.out.drewN n4)
  clear hd HSM K5
  generalize W3.drewN n4 = w4 at K6
  go_wp2_with fail
  refine (example35_any w4).mono ?_
  rintro e w5 ⟨b5, rfl, r5, k5⟩
  have R5 := Lib.hid r5; have K7 := Lib.hid (K6.out.tr k5)
  clear r5 k5 K6
  go_wp2_with fail
  refine (orders35_any w5).mono ?_
  rintro e w6 ⟨b6, rfl, r6, k6⟩
  have HCK := Lib.hid (Check_any ex35 or35 _ _ 2 2 w6 (k6.rdo' RPaths.ok R5.out) r6)
  have K8 := Lib.hid (K7.out.tr k6)
  clear r6 k6 K7 R5
  go_wp2_with fail
  refine HCK.out.mono ?_
  rintro e w7 ⟨rfl, k7⟩
  rw [HC.out]
  have K9 := Lib.hid (K8.out.tr k7)
  clear k7 HCK
  go_wp2
  go_ret
  exact ⟨rfl, K9.out⟩

end Go.Proofs.Ytigmldildefdgaa
