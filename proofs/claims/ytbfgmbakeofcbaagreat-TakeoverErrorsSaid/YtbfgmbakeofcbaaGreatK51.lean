/- Contract of the reference's Orders of chapter 38: it returns takeP. Conditions: as the theorem says. Contracts of the example and of awake of chapter 38. No condition. The statement TakeoverOrders: its function returns true. No condition beyond the arguments' reading. From a row's argument that is a slice of integers to its reading. No condition. -/
import Derived.Test.YtbfgmbakeofcbaaGreatK50
import Derived.Test.YtbfgmbakeofcbaaGreatK16
import Derived.Test.YtbfgmbakeofcbaaGreatK18
import Derived.Test.YtbfgmbakeofcbaaGreatK35
import Derived.Test.YtbfgmbakeofcbaaGreatK46
import Derived.Test.YtbfgmbakeofcbaaGreatK30
import Derived.Test.YtbfgmbakeofcbaaGreatK36
import Derived.Test.YtbfgmbakeofcbaaGreatK29
import Derived.Test.YtbfgmbakeofcbaaGreatK32
import Derived.Test.YtbfgmbakeofcbaaGreatK01
import Derived.Test.YtbfgmbakeofcbaaGreatRows
import Derived.ProofKit
import Derived.OpenShut
import Derived.ShutString
import Derived.ChangeOld
import Derived.Below
namespace Go.Proofs.YtbfgmbakeofcbaaGreat
open Go.RowKit

set_option maxRecDepth 100000 in
set_option maxHeartbeats 1000000 in
theorem RefOrders_line (ps : List (List Stage)) (os : List Order) (at_ : List Int) (budget : Int) (A A2 A3 : Option Addr) (c c2 c3 : Nat) (w : World) (hps1 : 1 ≤ ps.length) (h : RPaths w (Old w) [.slice A ps.length c] ps) (h2 : ROrders w (Old w) [.slice A2 os.length c2] os) (h3 : RInts w (Old w) [.slice A3 at_.length c3] at_)
    (hck : checkO ps os = true) (hcs : checkState ps at_ = 0) (hb : 1 ≤ budget ∧ budget ≤ 1048576) (hok : okP ps os at_ = true) :
    Calls Tryz.prog 10 #[.slice A ps.length c, .slice A2 os.length c2, .slice A3 at_.length c3, .int .i64 budget] w fun e w' => ∃ v, e = .returned (.tuple #[v, .int .i64 0, .int .i64 0]) ∧ ROrders w' (Old w') [v] (restP ps os at_) ∧ KeepsAll w w' := by
  have HCK := Lib.hid (RefCheck_any ps os A A2 c c2 w h h2)
  have Q : Hid ((lineP ps os at_).2 = true) := by show _ = _; unfold lineP; rw [hck, (checkState_zero hcs).2.1, hok]; rfl
  have H := Lib.hid h; have H2 := Lib.hid h2; have H3 := Lib.hid h3
  have b1 : decide (budget < 1) = false := by simp; omega
  have b2 : decide (budget > 1048576) = false := by simp; omega
  rw [hck] at HCK
  clear h h2 h3 hok hck
  go_enter Tryz.func10, Tryz.ntmps10
  go_wp2_with fail
  refine HCK.out.mono ?_
  rintro e w1 ⟨rfl, k1⟩
  have K1 := Lib.hid k1; clear k1 HCK
  go_wp2_with fail
  refine (CheckState_any ps at_ A A3 c c3 w1 (K1.out.rdo' RPaths.ok H.out) (K1.out.rdo' RInts.ok H3.out)).mono ?_
  rintro e w2 ⟨rfl, k2⟩
  rw [hcs]
  have K2 := Lib.hid (K1.out.tr k2); clear k2 K1 hcs
  go_wp2_with fail
  refine (RefLine_any ps os at_ A A2 A3 c c2 c3 w2 hps1 (K2.out.rdo' RPaths.ok H.out) (K2.out.rdo' ROrders.ok H2.out) (K2.out.rdo' RInts.ok H3.out)).mono ?_
  rintro e w4 ⟨v4, rfl, r4, k4⟩
  rw [Q.out]
  have K4 := Lib.hid (K2.out.tr k4)
  clear k4 r4 K2
  go_wp2_with fail
  refine (RefRest_any ps os at_ A A2 A3 c c2 c3 w4 (K4.out.rdo' RPaths.ok H.out) (K4.out.rdo' ROrders.ok H2.out) (K4.out.rdo' RInts.ok H3.out)).mono ?_
  rintro e w5 ⟨v5, rfl, r5, k5⟩
  have K5 := Lib.hid (K4.out.tr k5)
  have R5 := Lib.hid r5
  clear k5 r5 K4
  go_wp2
  go_ret3
  exact ⟨_, rfl, R5.out, K5.out⟩

set_option maxRecDepth 100000 in
set_option maxHeartbeats 4000000 in
theorem RefOrders_any (ps : List (List Stage)) (os : List Order) (at_ : List Int) (budget : Int) (A A2 A3 : Option Addr) (c c2 c3 : Nat) (w : World) (hps1 : 1 ≤ ps.length) (h : RPaths w (Old w) [.slice A ps.length c] ps) (h2 : ROrders w (Old w) [.slice A2 os.length c2] os) (h3 : RInts w (Old w) [.slice A3 at_.length c3] at_) :
    Calls Tryz.prog 10 #[.slice A ps.length c, .slice A2 os.length c2, .slice A3 at_.length c3, .int .i64 budget] w fun e w' => ∃ v, e = .returned (.tuple #[v, .int .i64 (takeP ps os at_ budget).2.1, .int .i64 (takeP ps os at_ budget).2.2]) ∧ ROrders w' (Old w') [v] (takeP ps os at_ budget).1 ∧ KeepsAll w w' := by
  cases g0 : checkO ps os with
  | false =>
    have HCK := Lib.hid (RefCheck_any ps os A A2 c c2 w h h2)
    have Q : Hid (takeP ps os at_ budget = ([], 0, 1)) := by show _ = _; unfold takeP; rw [if_pos g0]
    rw [g0] at HCK
    clear h h2 h3 g0
    go_enter Tryz.func10, Tryz.ntmps10
    go_wp2_with fail
    refine HCK.out.mono ?_
    rintro e w1 ⟨rfl, k1⟩
    have K1 := Lib.hid k1; clear k1 HCK
    go_wp2
    go_ret3
    rw [Q.out]
    exact ⟨_, rfl, RSlice.mkNil, K1.out⟩
  | true =>
    by_cases g1 : checkState ps at_ = 0
    · by_cases g2 : budget < 1 ∨ 1048576 < budget
      · have HCK := Lib.hid (RefCheck_any ps os A A2 c c2 w h h2)
        have Q : Hid (takeP ps os at_ budget = ([], 0, 4)) := by show _ = _; unfold takeP; rw [if_neg (by simp [g0]), if_neg (by simpa using g1), if_pos g2]
        rw [g0] at HCK
        have H := Lib.hid h; have H3 := Lib.hid h3
        have HC := Lib.hid g1
        clear h h2 h3 g0 g1
        by_cases g3 : budget < 1
        · have b1 : decide (budget < 1) = true := by simpa using g3
          clear g2 g3
          go_enter Tryz.func10, Tryz.ntmps10
          go_wp2_with fail
          refine HCK.out.mono ?_
          rintro e w1 ⟨rfl, k1⟩
          have K1 := Lib.hid k1; clear k1 HCK
          go_wp2_with fail
          refine (CheckState_any ps at_ A A3 c c3 w1 (K1.out.rdo' RPaths.ok H.out) (K1.out.rdo' RInts.ok H3.out)).mono ?_
          rintro e w2 ⟨rfl, k2⟩
          rw [HC.out]
          have K2 := Lib.hid (K1.out.tr k2); clear k2 K1
          go_wp2
          go_ret3
          rw [Q.out]
          exact ⟨_, rfl, RSlice.mkNil, K2.out⟩
        · have b1 : decide (budget < 1) = false := by simpa using g3
          have b2 : decide (budget > 1048576) = true := by simp; omega
          clear g2 g3
          go_enter Tryz.func10, Tryz.ntmps10
          go_wp2_with fail
          refine HCK.out.mono ?_
          rintro e w1 ⟨rfl, k1⟩
          have K1 := Lib.hid k1; clear k1 HCK
          go_wp2_with fail
          refine (CheckState_any ps at_ A A3 c c3 w1 (K1.out.rdo' RPaths.ok H.out) (K1.out.rdo' RInts.ok H3.out)).mono ?_
          rintro e w2 ⟨rfl, k2⟩
          rw [HC.out]
          have K2 := Lib.hid (K1.out.tr k2); clear k2 K1
          go_wp2
          go_ret3
          rw [Q.out]
          exact ⟨_, rfl, RSlice.mkNil, K2.out⟩
      · have hb : 1 ≤ budget ∧ budget ≤ 1048576 := by omega
        cases g3 : okP ps os at_ with
        | true =>
          have e : takeP ps os at_ budget = (restP ps os at_, 0, 0) := by unfold takeP; rw [if_neg (by simp [g0]), if_neg (by simpa using g1), if_neg g2, if_pos g3]
          rw [e]
          exact RefOrders_line ps os at_ budget A A2 A3 c c2 c3 w hps1 h h2 h3 g0 g1 hb g3
        | false =>
          by_cases g4 : (searchP ps at_ budget).2.2 = 0
          · have e : takeP ps os at_ budget = ((restP ps os at_).map (sortTO (entL ps at_ (searchP ps at_ budget).1)), (searchP ps at_ budget).2.1, 0) := by unfold takeP; rw [if_neg (by simp [g0]), if_neg (by simpa using g1), if_neg g2, if_neg (by simp [g3]), if_neg (by simpa using g4)]
            rw [e]
            exact RefOrders_moves ps os at_ budget A A2 A3 c c2 c3 w hps1 h h2 h3 g0 g1 hb g3 g4
          · have HCK := Lib.hid (RefCheck_any ps os A A2 c c2 w h h2)
            have Q0 : Hid (takeP ps os at_ budget = ([], 0, (searchP ps at_ budget).2.2)) := by show _ = _; unfold takeP; rw [if_neg (by simp [g0]), if_neg (by simpa using g1), if_neg g2, if_neg (by simp [g3]), if_pos (by simpa using g4)]
            obtain ⟨_, hgd, _⟩ := checkState_zero g1
            have HGD := Lib.hid hgd
            have Q : Hid ((lineP ps os at_).2 = false) := by show _ = _; unfold lineP; rw [g0, hgd, g3]; rfl
            have HSR := Lib.hid (RSearch_any ps at_ budget A A3 c c3)
            have HC := Lib.hid g1
            rw [g0] at HCK
            have g4' : ((searchP ps at_ budget).2.2 != 0) = true := by simpa using g4
            have H := Lib.hid h; have H2 := Lib.hid h2; have H3 := Lib.hid h3
            have b1 : decide (budget < 1) = false := by simp; omega
            have b2 : decide (budget > 1048576) = false := by simp; omega
            generalize (searchP ps at_ budget).1 = mv at *
            generalize (searchP ps at_ budget).2.1 = sn at *
            generalize (searchP ps at_ budget).2.2 = sc at *
            clear h h2 h3 g0 g1 g2 g3 g4 hgd
            go_enter Tryz.func10, Tryz.ntmps10
            go_wp2_with fail
            refine HCK.out.mono ?_
            rintro e w1 ⟨rfl, k1⟩
            have K1 := Lib.hid k1; clear k1 HCK
            go_wp2_with fail
            refine (CheckState_any ps at_ A A3 c c3 w1 (K1.out.rdo' RPaths.ok H.out) (K1.out.rdo' RInts.ok H3.out)).mono ?_
            rintro e w2 ⟨rfl, k2⟩
            rw [HC.out]
            have K3 := Lib.hid (K1.out.tr k2); clear k2 K1
            go_wp2_with fail
            refine (RefLine_any ps os at_ A A2 A3 c c2 c3 w2 hps1 (K3.out.rdo' RPaths.ok H.out) (K3.out.rdo' ROrders.ok H2.out) (K3.out.rdo' RInts.ok H3.out)).mono ?_
            rintro e w4 ⟨v4, rfl, r4, k4⟩
            rw [Q.out]
            have K4 := Lib.hid (K3.out.tr k4)
            clear k4 r4 K3
            go_wp2_with fail
            refine (HSR.out w4 (K4.out.rdo' RPaths.ok H.out) (K4.out.rdo' RInts.ok H3.out)).mono ?_
            rintro e w5 ⟨v5, rfl, r5, k5⟩
            have K5 := Lib.hid (K4.out.tr k5)
            clear k5 r5 K4 HSR
            go_wp2
            go_ret3
            rw [Q0.out]
            exact ⟨_, rfl, RSlice.mkNil, K5.out⟩
    · have HCK := Lib.hid (RefCheck_any ps os A A2 c c2 w h h2)
      have Q : Hid (takeP ps os at_ budget = ([], 0, checkState ps at_)) := by show _ = _; unfold takeP; rw [if_neg (by simp [g0]), if_pos (by simpa using g1)]
      rw [g0] at HCK
      have g1' : (checkState ps at_ != 0) = true := by simpa using g1
      have HDC := Lib.hid (CheckState_any ps at_ A A3 c c3)
      have H := Lib.hid h; have H3 := Lib.hid h3
      generalize checkState ps at_ = cs at *
      clear h h2 h3 g0 g1
      go_enter Tryz.func10, Tryz.ntmps10
      go_wp2_with fail
      refine HCK.out.mono ?_
      rintro e w1 ⟨rfl, k1⟩
      have K1 := Lib.hid k1; clear k1 HCK
      go_wp2_with fail
      refine (HDC.out w1 (K1.out.rdo' RPaths.ok H.out) (K1.out.rdo' RInts.ok H3.out)).mono ?_
      rintro e w2 ⟨rfl, k2⟩
      have K2 := Lib.hid (K1.out.tr k2); clear k2 K1
      go_wp2
      go_ret3
      rw [Q.out]
      exact ⟨_, rfl, RSlice.mkNil, K2.out⟩

def st3 (a b c : Int) : List Stage := [⟨a, [], 0, 0⟩, ⟨b, [], 0, 0⟩, ⟨c, [], 0, 0⟩]
def ex38 : List (List Stage) := [st3 1 2 3, st3 3 2 1]
theorem ex38_one : identify ex38 [0, 1] [1, 3] 100 = ([0, 0], (identify ex38 [0, 1] [1, 3] 100).2.1, 0) ∧ 0 < (identify ex38 [0, 1] [1, 3] 100).2.1 := by decide +kernel
theorem ex38_two : (identify ex38 [0, 0] [2] 100).2.2 = 13 := by decide +kernel

theorem st3_rd {w : World} {S : Foot} {b : Nat} {t : TypeId} {x y z : Int} (hb : Blk w b t #[.int .i64 x, .slice none 0 0, .int .i64 0, .int .i64 0, .int .i64 y, .slice none 0 0, .int .i64 0, .int .i64 0, .int .i64 z, .slice none 0 0, .int .i64 0, .int .i64 0]) (hS : S b) : RPath w S [.slice (some ⟨b, 0, none⟩) 3 3] (st3 x y z) :=
  RSlice.ofBlk hb hS [[.int .i64 x, .slice none 0 0, .int .i64 0, .int .i64 0], [.int .i64 y, .slice none 0 0, .int .i64 0, .int .i64 0], [.int .i64 z, .slice none 0 0, .int .i64 0, .int .i64 0]] (st3 x y z) rfl
    ⟨⟨rfl, _, rfl, RSlice.mkNil⟩, ⟨rfl, _, rfl, RSlice.mkNil⟩, ⟨rfl, _, rfl, RSlice.mkNil⟩, trivial⟩ (by simp [st3])

def stCells (x y z : Int) : Array Value := #[.int .i64 x, .slice none 0 0, .int .i64 0, .int .i64 0, .int .i64 y, .slice none 0 0, .int .i64 0, .int .i64 0, .int .i64 z, .slice none 0 0, .int .i64 0, .int .i64 0]
theorem ex38_rd (w : World) (t t' : TypeId) : ∀ W, W = ((w.alloc (.cells (stCells 1 2 3) t)).alloc (.cells (stCells 3 2 1) t)).alloc (.cells #[.slice (some ⟨w.heap.size, 0, none⟩) 3 3, .slice (some ⟨w.heap.size + 1, 0, none⟩) 3 3] t') →
    RPaths W (Fresh w W) [.slice (some ⟨w.heap.size + 2, 0, none⟩) 2 2] ex38 ∧ KeepsAll w W := by
  rintro W rfl
  refine ⟨?_, (((Keeps.refl _ _).alloc _).alloc _).alloc _⟩
  have hz : (((w.alloc (.cells (stCells 1 2 3) t)).alloc (.cells (stCells 3 2 1) t)).alloc (.cells #[.slice (some ⟨w.heap.size, 0, none⟩) 3 3, .slice (some ⟨w.heap.size + 1, 0, none⟩) 3 3] t')).heap.size = w.heap.size + 3 := by simp
  have B1 := ((Blk.new w t (stCells 1 2 3)).alloc (.cells (stCells 3 2 1) t)).alloc (.cells #[.slice (some ⟨w.heap.size, 0, none⟩) 3 3, .slice (some ⟨w.heap.size + 1, 0, none⟩) 3 3] t')
  have B2 := (Blk.new' (w.alloc (.cells (stCells 1 2 3) t)) t (stCells 3 2 1) (g := w.heap.size + 1) (by simp)).alloc (.cells #[.slice (some ⟨w.heap.size, 0, none⟩) 3 3, .slice (some ⟨w.heap.size + 1, 0, none⟩) 3 3] t')
  have B3 := Blk.new' ((w.alloc (.cells (stCells 1 2 3) t)).alloc (.cells (stCells 3 2 1) t)) t' #[.slice (some ⟨w.heap.size, 0, none⟩) 3 3, .slice (some ⟨w.heap.size + 1, 0, none⟩) 3 3] (g := w.heap.size + 2) (by simp)
  generalize (((w.alloc (.cells (stCells 1 2 3) t)).alloc (.cells (stCells 3 2 1) t)).alloc (.cells #[.slice (some ⟨w.heap.size, 0, none⟩) 3 3, .slice (some ⟨w.heap.size + 1, 0, none⟩) 3 3] t')) = W at *
  exact RSlice.ofBlk B3 ⟨by omega, by omega⟩ [[.slice (some ⟨w.heap.size, 0, none⟩) 3 3], [.slice (some ⟨w.heap.size + 1, 0, none⟩) 3 3]] ex38 rfl ⟨⟨rfl, st3_rd B1 ⟨by omega, by omega⟩⟩, ⟨rfl, st3_rd B2 ⟨by omega, by omega⟩⟩, trivial⟩ (by simp [ex38])

set_option maxRecDepth 100000 in
theorem example38_any (w : World) : Calls Tryz.prog 39 #[] w fun e w' => ∃ b, e = .returned (.slice (some ⟨b, 0, none⟩) 2 2) ∧ RPaths w' (Fresh w w') [.slice (some ⟨b, 0, none⟩) 2 2] ex38 ∧ KeepsAll w w' := by
  go_enter Tryz.func39, Tryz.ntmps39
  go_wp2
  go_ret
  exact ⟨w.heap.size + 2, rfl, ex38_rd w _ _ _ rfl⟩

theorem two_ints (w1 : World) (l m : List Int) (t : TypeId) (hl : l.length ≤ 1000) (hm : m.length ≤ 1000) : ∀ W, W = (w1.alloc (.cells (l.map (Value.int .i64)).toArray t)).alloc (.cells (m.map (Value.int .i64)).toArray t) →
    RInts W (Old W) [.slice (some ⟨w1.heap.size, 0, none⟩) l.length l.length] l ∧ RInts W (Old W) [.slice (some ⟨w1.heap.size + 1, 0, none⟩) m.length m.length] m ∧ KeepsAll w1 W := by
  rintro W rfl
  refine ⟨?_, ?_, ((Keeps.refl _ _).alloc _).alloc _⟩
  · exact RInts.ofBlk l ((Blk.new _ _ _).alloc _) (by show _ < _; simp; omega) (by omega)
  · exact RInts.ofBlk m (Blk.new' _ _ _ (by simp)) (by show _ < _; simp) (by omega)
theorem KeepsAll.rdo {α : Type} {E : Rd α} (hE : Rd.Ok E) {a b : World} (k : KeepsAll a b) {S : Foot} {cs : List Value} {x : α} (h : E a S cs x) (hS : ∀ b, S b → b < a.heap.size) : E b (Old b) cs x :=
  k.rd hE h (fun b hb => ⟨hS b hb, by simp⟩) (fun b hb => Nat.lt_of_lt_of_le (hS b hb) k.size)

set_option maxRecDepth 100000 in
set_option maxHeartbeats 1000000 in
theorem awake38_any (w : World) : Calls Tryz.prog 11 #[] w fun e w' => e = .returned (.bool true) ∧ KeepsAll w w' := by
  obtain ⟨E1, E1n⟩ := ex38_one
  have E2 := Lib.hid ex38_two
  generalize (identify ex38 [0, 1] [1, 3] 100).2.1 = N1 at E1 E1n
  have E1 := Lib.hid E1
  go_enter Tryz.func11, Tryz.ntmps11
  go_wp2_with fail
  refine (example38_any w).mono ?_
  rintro e w1 ⟨b1, rfl, r1, k1⟩
  have R1 := Lib.hid r1; clear r1
  have K1 := Lib.hid k1; clear k1
  go_wp2_with fail
  generalize hW : World.alloc (World.alloc w1 _) _ = W
  obtain ⟨a1, a2, a3⟩ := two_ints w1 [0, 1] [1, 3] 3 (by simp) (by simp) W hW.symm
  have P1 := a3.rdo RPaths.ok R1.out (fun b hb => hb.2)
  refine (Identify_any ex38 [0, 1] [1, 3] 100 (some ⟨b1, 0, none⟩) _ _ 2 _ _ W P1 a1 a2).mono ?_
  rintro e w2 ⟨v, rfl, rv, k2⟩
  rw [E1.out] at rv ⊢
  simp only [] at rv ⊢
  obtain ⟨Av, cv, hv⟩ : ∃ Av cv, v = .slice Av 2 cv := by obtain ⟨Ab, cb, he, _⟩ := rv; injection he with he _; exact ⟨Ab, cb, he⟩
  subst hv
  have K2 : Hid (KeepsAll w w2) := (K1.out.trans a3 (fun _ _ h => h)).trans k2 (fun _ _ h => h)
  have RV := Lib.hid rv
  clear rv k2 a1 a2 a3 P1 hW
  go_wp2_with fail
  refine (example38_any w2).mono ?_
  rintro e w3 ⟨b3, rfl, r3, k3⟩
  have R3 := Lib.hid r3; clear r3
  have K3 := Lib.hid k3; clear k3
  go_wp2_with fail
  generalize hW : World.alloc (World.alloc w3 _) _ = W3
  obtain ⟨a1, a2, a3⟩ := two_ints w3 [0, 0] [2] 3 (by simp) (by simp) W3 hW.symm
  have P1 := a3.rdo RPaths.ok R3.out (fun b hb => hb.2)
  refine (Identify_any ex38 [0, 0] [2] 100 (some ⟨b3, 0, none⟩) _ _ 2 _ _ W3 P1 a1 a2).mono ?_
  rintro e w4 ⟨v4, rfl, rv4, k4⟩
  rw [E2.out]
  have K4 : Hid (KeepsAll w2 w4) := (K3.out.trans a3 (fun _ _ h => h)).trans k4 (fun _ _ h => h)
  have RV4 := Lib.hid (K4.out.rdo RInts.ok RV.out (fun b hb => hb.2))
  clear rv4 k4 a1 a2 a3 P1 hW
  go_wp2_with fail
  generalize hW : World.alloc w4 _ = W5
  have K5 : KeepsAll w4 W5 := by subst hW; exact (Keeps.refl _ _).alloc _
  have RV5 := K5.rdo RInts.ok RV4.out (fun b hb => hb)
  have RL : RInts W5 (Old W5) [.slice (some ⟨w4.heap.size, 0, none⟩) 2 2] [0, 0] := by subst hW; exact RInts.ofBlk [0, 0] (Blk.new _ _ _) (by show _ < _; simp) (by simp)
  refine (SameInt_any [0, 0] [0, 0] Av _ cv _ W5 _ _ RV5 RL).mono ?_
  rintro e w6 ⟨rfl, n6, rfl⟩
  have K6 := Lib.hid (((K2.out.trans K4.out (fun _ _ h => h)).trans K5 (fun _ _ h => h)).drewN n6)
  clear K5 RV5 RL hW
  go_wp2
  go_ret
  exact ⟨rfl, K6.out⟩

set_option maxRecDepth 100000 in
set_option maxHeartbeats 4000000 in
theorem TakeoverOrders_any (lp le la : List Int) (A A2 A3 : Option Addr) (c c2 c3 : Nat) (budget : Int) (w : World) (h : RInts w (Old w) [.slice A lp.length c] lp) (h2 : RInts w (Old w) [.slice A2 le.length c2] le) (h3 : RInts w (Old w) [.slice A3 la.length c3] la) :
    Calls Tryz.prog 4 #[.slice A lp.length c, .slice A2 le.length c2, .slice A3 la.length c3, .int .i64 budget] w fun e w' => e = .returned (.bool true) ∧ KeepsAll w w' := by
  have H := Lib.hid h; clear h
  have H2 := Lib.hid h2; clear h2
  have H3 := Lib.hid h3; clear h3
  go_enter Tryz.func4, Tryz.ntmps4
  go_wp2_with fail
  refine (Paths_any lp A c w H.out).mono ?_
  rintro e w1 ⟨v, ps, rfl, rp, hm, k1⟩
  obtain ⟨B, d, rfl⟩ := rp.form
  have K1 := Lib.hid k1
  have M := Lib.hid hm
  have P1 := Lib.hid (RPaths.ok.mono rp (S' := Old w1) (fun b hb => hb.2) (fun _ _ => rfl))
  clear rp hm k1
  go_wp2_with fail
  refine (Enter_any ps le B A2 d c2 w1 P1.out (K1.out.rdo' RInts.ok H2.out) (by have := M.out.2.1; omega) (fun p hp => by have := (M.out.2.2 p hp).2.1; omega)).mono ?_
  rintro e w2 ⟨v, en, rfl, re, hen, k2⟩
  obtain ⟨B2, d2, rfl⟩ := re.form
  have K2 := Lib.hid (K1.out.tr k2)
  have P2 := Lib.hid (k2.rdo' RPaths.ok P1.out)
  have E2 := Lib.hid re
  have HEN := Lib.hid hen
  clear re hen k2 K1 P1
  have hok : sortOk ps en = true := by
    simp only [sortOk, Bool.and_eq_true, decide_eq_true_eq]
    exact ⟨⟨M.out.valid, HEN.out.1⟩, HEN.out.2.1⟩
  have HS : Hid (sortO ps en = (ordersTo ps en 144, 0)) := by show _ = _; unfold sortO; rw [hok]; rfl
  have HCK := Lib.hid (sortO_check hok)
  clear hok
  go_wp2_with fail
  refine (RefSort_any ps en B B2 d d2 w2 P2.out E2.out).mono ?_
  rintro e w3 ⟨v, rfl, ro, k3⟩
  rw [HS.out] at ro ⊢
  simp only [] at ro ⊢
  obtain ⟨B3, d3, hv3, _, _⟩ := ro.val
  subst hv3
  have K3 := Lib.hid (K2.out.tr k3)
  have P3 := Lib.hid (k3.rdo' RPaths.ok P2.out)
  have O3 := Lib.hid ro
  have HOE : Hid (∃ en', EnOk ps en' ∧ ordersTo ps en 144 = ordersTo ps en' 144) := ⟨en, HEN.out, rfl⟩
  generalize ordersTo ps en 144 = os at *
  clear ro k3 K2 P2 E2 HS
  go_wp2_with fail
  refine (At_any ps la B A3 d c3 w3 P3.out (K3.out.rdo' RInts.ok H3.out) M.out.s8 M.out.l M.out.pl).mono ?_
  rintro e w4 ⟨v, at_, rfl, ra, hg, k4⟩
  obtain ⟨B4, d4, rfl⟩ := ra.form
  have K4 := Lib.hid (K3.out.tr k4)
  have P4 := Lib.hid (k4.rdo' RPaths.ok P3.out)
  have O4 := Lib.hid (k4.rdo' ROrders.ok O3.out)
  have A4 := Lib.hid (RInts.ok.mono ra (S' := Old w4) (fun b hb => hb.2) (fun _ _ => rfl))
  have G4 := Lib.hid hg
  clear ra hg k4 K3 P3 O3
  have hps1 := M.out.1
  have pb := pick_range budget 300 (by omega)
  go_wp2_with (go_at_call 15; refine (Pick_any _ _ _ (by omega) (by omega)).mono ?_; rintro e w' ⟨rfl, rfl⟩)
  generalize pick budget 300 = bb at *
  refine (TOrders_any ps os at_ bb B B3 B4 d d3 d4 w4 M.out P4.out O4.out A4.out).mono ?_
  rintro e w5 ⟨v5, rfl, r5, k5⟩
  obtain ⟨B5, d5, rfl, _, _⟩ := r5.val
  have R5 := Lib.hid r5
  have K5 := Lib.hid (K4.out.tr k5)
  have HRO := Lib.hid (RefOrders_any ps os at_ bb B B3 B4 d d3 d4 w5 hps1 (k5.rdo' RPaths.ok P4.out) (k5.rdo' ROrders.ok O4.out) (k5.rdo' RInts.ok A4.out))
  clear r5 k5 K4 P4 O4 A4 pb
  generalize takeP ps os at_ bb = r at *
  obtain ⟨rl, rn, re⟩ := r
  simp only [] at R5 HRO ⊢
  go_wp2_with fail
  refine HRO.out.mono ?_
  rintro e w6 ⟨v6, rfl, r6, k6⟩
  obtain ⟨B6, d6, rfl, _, _⟩ := r6.val
  have R6 := Lib.hid r6
  have R56 := Lib.hid (k6.rdo' ROrders.ok R5.out)
  have K6 := Lib.hid (K5.out.tr k6)
  clear r6 k6 K5 R5 HRO
  go_wp2_with fail
  refine (awake38_any w6).mono ?_
  rintro e w8 ⟨rfl, k8⟩
  have R58 := Lib.hid (k8.rdo' ROrders.ok R56.out)
  have R68 := Lib.hid (k8.rdo' ROrders.ok R6.out)
  have K8 := Lib.hid (K6.out.tr k8); clear k8 R56 R6 K6
  go_wp2_with fail
  refine (SameOrders_same rl B5 B6 d5 d6 w8 R58.out R68.out).mono ?_
  rintro e w10 ⟨rfl, k10⟩
  have K10 := Lib.hid (K8.out.tr k10); clear k10
  go_wp2
  go_ret
  exact ⟨by simp, K10.out⟩

open Go.ChangeShapes Go.WideShapes Go.ChangeAt Go.RowKit

theorem rowOwn : ownKnob Tryz.prog.godebug = none := by kernel_rfl
theorem rowLaid : laidOutB Tryz.prog = true := by kernel_rfl

theorem cell_lt {w : World} {p : Addr} {v : Value} (h : w.cell? p = some v) : p.block < w.heap.size := by
  rcases Nat.lt_or_ge p.block w.heap.size with h1 | h1
  · exact h1
  · have : w.heap[p.block]? = none := Array.getElem?_eq_none h1
    simp [World.cell?, this] at h

theorem ints_of_row {W : World} {a : Option Addr} {len cap : Nat} {zs : List Int}
    (h : (a = none ∧ len = 0 ∧ cap = 0 ∧ zs = []) ∨ ∃ x, a = some x ∧ len ≤ cap ∧ cap ≤ maxLen ∧ zs.length = cap ∧ (∀ i, i < zs.length → W.cell? (x.add i) = some (.int .i64 (zs.getD i 0)))) :
    ∃ l : List Int, len = l.length ∧ RInts W (Old W) [.slice a l.length cap] l := by
  rcases h with ⟨rfl, rfl, rfl, rfl⟩ | ⟨x, rfl, hl, hm, hz, hc⟩
  · exact ⟨[], rfl, RSlice.mkNil⟩
  · have hlen : (zs.take len).length = len := by simp; omega
    refine ⟨zs.take len, hlen.symm, some x, cap, rfl, by omega, by simpa [maxLen] using hm, fun hne => ?_⟩
    have hpos : 0 < len := by
      rcases Nat.eq_zero_or_pos len with h0 | h0
      · subst h0; simp at hne
      · exact h0
    have h0 := hc 0 (by omega)
    obtain ⟨b, o, spot⟩ := x
    have hspot : spot = none := by simpa [Addr.add] using World.cell?_spot h0
    subst hspot
    refine ⟨b, o, rfl, by have := cell_lt h0; show b < _; simpa [Addr.add] using this, fun j y hy => ?_⟩
    have hj := (List.getElem?_eq_some_iff.1 hy).1
    have hj2 : j < len := by omega
    refine ⟨[.int .i64 y], rfl, rfl, fun i u hu => ?_⟩
    have hi : i = 0 := by
      rcases i with _ | i
      · rfl
      · simp at hu
    subst hi
    simp at hu; subst hu
    have := hc j (by omega)
    rw [List.getElem?_take_of_lt hj2] at hy
    rw [List.getD_eq_getElem?_getD, hy] at this
    rcases j with _ | j
    · simpa [Addr.add] using this
    · simpa [Addr.add] using this

theorem trod_ints {H : Type} {enc : TypeId × Value → H} {W : World} {a : Option Addr} {len cap : Nat} {d : DataW H} {p : List MemPlace} (h : DataW.Trod enc Tryz.prog W 0 (fun _ => true) true 23 (.slice a len cap) d p) :
    ∃ l : List Int, len = l.length ∧ RInts W (Old W) [.slice a l.length cap] l := by
  obtain ⟨fuel, hf⟩ := h
  rcases open_ints Tryz.underlying23 Tryz.underlying3 (by kernel_rfl) hf with ⟨hcs, _⟩ | ⟨x, l, c, zs, hcs, _, hl, hm, hz, _, hcell, hwz⟩
  · simp [Value.cells] at hcs
    obtain ⟨rfl, rfl, rfl⟩ := hcs
    exact ints_of_row (zs := []) (.inl ⟨rfl, rfl, rfl, rfl⟩)
  · simp [Value.cells] at hcs
    obtain ⟨rfl, rfl, rfl⟩ := hcs
    exact ints_of_row (zs := zs) (.inr ⟨_, rfl, hl, hm, by simpa using hz, hcell⟩)

end Go.Proofs.YtbfgmbakeofcbaaGreat
