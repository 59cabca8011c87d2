/- Contract of takeover.Orders at made paths: it returns takeP. Conditions: as the theorem says. -/
import Derived.Test.YtbfgmbakeofcbaaK43
namespace Go.Proofs.Ytbfgmbakeofcbaa
open Go.RowKit

set_option maxRecDepth 100000 in
set_option maxHeartbeats 4000000 in
theorem TOrders_any (ps : List (List Stage)) (os : List Order) (at_ : List Int) (budget : Int) (A A2 A3 : Option Addr) (c c2 c3 : Nat) (w : World) (hm : psMade ps) (h : RPaths w (Old w) [.slice A ps.length c] ps) (h2 : ROrders w (Old w) [.slice A2 os.length c2] os) (h3 : RInts w (Old w) [.slice A3 at_.length c3] at_) :
    Calls Try.prog 10 #[.slice A ps.length c, .slice A2 os.length c2, .slice A3 at_.length c3, .int .i64 budget] w fun e w' => ∃ v, e = .returned (.tuple #[v, .int .i64 (takeP ps os at_ budget).2.1, .int .i64 (takeP ps os at_ budget).2.2]) ∧ ROrders w' (Old w') [v] (takeP ps os at_ budget).1 ∧ KeepsAll w w' := by
  cases g0 : checkO ps os with
  | false =>
    have HCK := Lib.hid (Check_any ps os A A2 c c2 w h h2)
    have Q : Hid (takeP ps os at_ budget = ([], 0, 1)) := by show _ = _; unfold takeP; rw [if_pos g0]
    rw [g0] at HCK
    clear h h2 h3 g0 hm
    go_enter Try.func10, Try.ntmps10
    go_wp2_with fail
    refine HCK.out.mono ?_
    rintro e w1 ⟨rfl, k1⟩
    have K1 := Lib.hid k1; clear k1 HCK
    go_wp2
    go_ret3
    rw [Q.out]
    exact ⟨_, rfl, RSlice.mkNil, K1.out⟩
  | true =>
    by_cases g1 : checkState ps at_ = 0
    · by_cases g2 : budget < 1 ∨ 1048576 < budget
      · have HCK := Lib.hid (Check_any ps os A A2 c c2 w h h2)
        have Q : Hid (takeP ps os at_ budget = ([], 0, 4)) := by show _ = _; unfold takeP; rw [if_neg (by simp [g0]), if_neg (by simpa using g1), if_pos g2]
        rw [g0] at HCK
        have H := Lib.hid h; have H3 := Lib.hid h3
        have HC := Lib.hid g1
        clear h h2 h3 g0 g1 hm
        by_cases g3 : budget < 1
        · have b1 : decide (budget < 1) = true := by simpa using g3
          clear g2 g3
          go_enter Try.func10, Try.ntmps10
          go_wp2_with fail
          refine HCK.out.mono ?_
          rintro e w1 ⟨rfl, k1⟩
          have K1 := Lib.hid k1; clear k1 HCK
          go_wp2_with fail
          refine (DCheck_any ps at_ A A3 c c3 w1 (K1.out.rdo' RPaths.ok H.out) (K1.out.rdo' RInts.ok H3.out)).mono ?_
          rintro e w2 ⟨rfl, k2⟩
          rw [HC.out]
          have K2 := Lib.hid (K1.out.tr k2); clear k2 K1
          go_wp2
          go_ret3
          rw [Q.out]
          exact ⟨_, rfl, RSlice.mkNil, K2.out⟩
        · have b1 : decide (budget < 1) = false := by simpa using g3
          have b2 : decide (budget > 1048576) = true := by simp; omega
          clear g2 g3
          go_enter Try.func10, Try.ntmps10
          go_wp2_with fail
          refine HCK.out.mono ?_
          rintro e w1 ⟨rfl, k1⟩
          have K1 := Lib.hid k1; clear k1 HCK
          go_wp2_with fail
          refine (DCheck_any ps at_ A A3 c c3 w1 (K1.out.rdo' RPaths.ok H.out) (K1.out.rdo' RInts.ok H3.out)).mono ?_
          rintro e w2 ⟨rfl, k2⟩
          rw [HC.out]
          have K2 := Lib.hid (K1.out.tr k2); clear k2 K1
          go_wp2
          go_ret3
          rw [Q.out]
          exact ⟨_, rfl, RSlice.mkNil, K2.out⟩
      · have hb : 1 ≤ budget ∧ budget ≤ 1048576 := by omega
        cases g3 : okP ps os at_ with
        | true =>
          have e : takeP ps os at_ budget = (restP ps os at_, 0, 0) := by unfold takeP; rw [if_neg (by simp [g0]), if_neg (by simpa using g1), if_neg g2, if_pos g3]
          rw [e]
          exact TOrders_line ps os at_ budget A A2 A3 c c2 c3 w h h2 h3 g0 g1 hb g3
        | false =>
          by_cases g4 : (searchP ps at_ budget).2.2 = 0
          · have e : takeP ps os at_ budget = ((restP ps os at_).map (sortTO (entL ps at_ (searchP ps at_ budget).1)), (searchP ps at_ budget).2.1, 0) := by unfold takeP; rw [if_neg (by simp [g0]), if_neg (by simpa using g1), if_neg g2, if_neg (by simp [g3]), if_neg (by simpa using g4)]
            rw [e]
            exact TOrders_moves ps os at_ budget A A2 A3 c c2 c3 w hm h h2 h3 g0 g1 hb g3 g4
          · have HCK := Lib.hid (Check_any ps os A A2 c c2 w h h2)
            have Q0 : Hid (takeP ps os at_ budget = ([], 0, (searchP ps at_ budget).2.2)) := by show _ = _; unfold takeP; rw [if_neg (by simp [g0]), if_neg (by simpa using g1), if_neg g2, if_neg (by simp [g3]), if_pos (by simpa using g4)]
            obtain ⟨_, hgd, _⟩ := checkState_zero g1
            have HGD := Lib.hid hgd
            have Q : Hid ((lineP ps os at_).2 = false) := by show _ = _; unfold lineP; rw [g0, hgd, g3]; rfl
            have HSR := Lib.hid (DSearch_any ps at_ budget A A3 c c3)
            have HC := Lib.hid g1
            rw [g0] at HCK
            have g4' : ((searchP ps at_ budget).2.2 != 0) = true := by simpa using g4
            have H := Lib.hid h; have H2 := Lib.hid h2; have H3 := Lib.hid h3
            have b1 : decide (budget < 1) = false := by simp; omega
            have b2 : decide (budget > 1048576) = false := by simp; omega
            generalize (searchP ps at_ budget).1 = mv at *
            generalize (searchP ps at_ budget).2.1 = sn at *
            generalize (searchP ps at_ budget).2.2 = sc at *
            clear h h2 h3 g0 g1 g2 g3 g4 hm hgd
            go_enter Try.func10, Try.ntmps10
            go_wp2_with fail
            refine HCK.out.mono ?_
            rintro e w1 ⟨rfl, k1⟩
            have K1 := Lib.hid k1; clear k1 HCK
            go_wp2_with fail
            refine (DCheck_any ps at_ A A3 c c3 w1 (K1.out.rdo' RPaths.ok H.out) (K1.out.rdo' RInts.ok H3.out)).mono ?_
            rintro e w2 ⟨rfl, k2⟩
            rw [HC.out]
            have K2 := Lib.hid (K1.out.tr k2); clear k2 K1
            go_wp2_with fail
            refine (Rest_any ps os at_ A A2 A3 c c2 c3 w2 (K2.out.rdo' RPaths.ok H.out) (K2.out.rdo' ROrders.ok H2.out) (K2.out.rdo' RInts.ok H3.out)).mono ?_
            rintro e w3 ⟨v3, rfl, r3, k3⟩
            have K3 := Lib.hid (K2.out.tr k3)
            clear k3 r3 K2
            go_wp2_with fail
            refine (Line_any ps os at_ A A2 A3 c c2 c3 w3 (K3.out.rdo' RPaths.ok H.out) (K3.out.rdo' ROrders.ok H2.out) (K3.out.rdo' RInts.ok H3.out)).mono ?_
            rintro e w4 ⟨v4, rfl, r4, k4⟩
            rw [Q.out]
            have K4 := Lib.hid (K3.out.tr k4)
            clear k4 r4 K3
            go_wp2_with fail
            refine (HSR.out w4 (K4.out.rdo' RPaths.ok H.out) (K4.out.rdo' RInts.ok H3.out)).mono ?_
            rintro e w5 ⟨v5, rfl, r5, k5⟩
            have K5 := Lib.hid (K4.out.tr k5)
            clear k5 r5 K4 HSR
            go_wp2
            go_ret3
            rw [Q0.out]
            exact ⟨_, rfl, RSlice.mkNil, K5.out⟩
    · have HCK := Lib.hid (Check_any ps os A A2 c c2 w h h2)
      have Q : Hid (takeP ps os at_ budget = ([], 0, checkState ps at_)) := by show _ = _; unfold takeP; rw [if_neg (by simp [g0]), if_pos (by simpa using g1)]
      rw [g0] at HCK
      have g1' : (checkState ps at_ != 0) = true := by simpa using g1
      have HDC := Lib.hid (DCheck_any ps at_ A A3 c c3)
      have H := Lib.hid h; have H3 := Lib.hid h3
      generalize checkState ps at_ = cs at *
      clear h h2 h3 g0 g1 hm
      go_enter Try.func10, Try.ntmps10
      go_wp2_with fail
      refine HCK.out.mono ?_
      rintro e w1 ⟨rfl, k1⟩
      have K1 := Lib.hid k1; clear k1 HCK
      go_wp2_with fail
      refine (HDC.out w1 (K1.out.rdo' RPaths.ok H.out) (K1.out.rdo' RInts.ok H3.out)).mono ?_
      rintro e w2 ⟨rfl, k2⟩
      have K2 := Lib.hid (K1.out.tr k2); clear k2 K1
      go_wp2
      go_ret3
      rw [Q.out]
      exact ⟨_, rfl, RSlice.mkNil, K2.out⟩

end Go.Proofs.Ytbfgmbakeofcbaa
