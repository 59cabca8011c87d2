/- Contract of takeover.Orders where the planned orders have a line. Conditions: as the theorem says. -/
import Derived.Test.YtcbpiidbkjaneaaGreatDChk
import Derived.Test.YtcbpiidbkjaneaaGreatRestA
import Derived.Test.YtcbpiidbkjaneaaGreatSteadyP
namespace Go.Proofs.YtcbpiidbkjaneaaGreat
open Go.RowKit

theorem checkState_zero {ps : List (List Stage)} {at_ : List Int} (h : checkState ps at_ = 0) : valid ps = true ∧ good ps at_ = true ∧ (heldOf ps at_).Nodup := by
  unfold checkState at h
  by_cases g : (valid ps && good ps at_) = false
  · rw [if_pos g] at h; omega
  · rw [if_neg g] at h
    have g' : (valid ps && good ps at_) = true := by simpa using g
    rw [Bool.and_eq_true] at g'
    by_cases g2 : (heldOf ps at_).Nodup
    · exact ⟨g'.1, g'.2, g2⟩
    · rw [if_neg g2] at h; omega

set_option maxRecDepth 100000 in
set_option maxHeartbeats 1000000 in
theorem TOrders_line (ps : List (List Stage)) (os : List Order) (at_ : List Int) (budget : Int) (A A2 A3 : Option Addr) (c c2 c3 : Nat) (w : World) (h : RPaths w (Old w) [.slice A ps.length c] ps) (h2 : ROrders w (Old w) [.slice A2 os.length c2] os) (h3 : RInts w (Old w) [.slice A3 at_.length c3] at_)
    (hck : checkO ps os = true) (hcs : checkState ps at_ = 0) (hb : 1 ≤ budget ∧ budget ≤ 1048576) (hok : okP ps os at_ = true) :
    Calls Tryz.prog 9 #[.slice A ps.length c, .slice A2 os.length c2, .slice A3 at_.length c3, .int .i64 budget] w fun e w' => ∃ v, e = .returned (.tuple #[v, .int .i64 0, .int .i64 0]) ∧ ROrders w' (Old w') [v] (restP ps os at_) ∧ KeepsAll w w' := by
  have HCK := Lib.hid (Check_any ps os A A2 c c2 w h h2)
  have Q : Hid ((lineP ps os at_).2 = true) := by show _ = _; unfold lineP; rw [hck, (checkState_zero hcs).2.1, hok]; rfl
  have H := Lib.hid h; have H2 := Lib.hid h2; have H3 := Lib.hid h3
  have b1 : decide (budget < 1) = false := by simp; omega
  have b2 : decide (budget > 1048576) = false := by simp; omega
  rw [hck] at HCK
  clear h h2 h3 hok hck
  go_enter Tryz.func9, Tryz.ntmps9
  go_wp2_with fail
  refine HCK.out.mono ?_
  rintro e w1 ⟨rfl, k1⟩
  have K1 := Lib.hid k1; clear k1 HCK
  go_wp2_with fail
  refine (DCheck_any ps at_ A A3 c c3 w1 (K1.out.rdo' RPaths.ok H.out) (K1.out.rdo' RInts.ok H3.out)).mono ?_
  rintro e w2 ⟨rfl, k2⟩
  rw [hcs]
  have K2 := Lib.hid (K1.out.tr k2); clear k2 K1 hcs
  go_wp2_with fail
  refine (Rest_any ps os at_ A A2 A3 c c2 c3 w2 (K2.out.rdo' RPaths.ok H.out) (K2.out.rdo' ROrders.ok H2.out) (K2.out.rdo' RInts.ok H3.out)).mono ?_
  rintro e w3 ⟨v3, rfl, r3, k3⟩
  have K3 := Lib.hid (K2.out.tr k3)
  have R3 := Lib.hid r3
  clear k3 r3 K2
  go_wp2_with fail
  refine (Line_any ps os at_ A A2 A3 c c2 c3 w3 (K3.out.rdo' RPaths.ok H.out) (K3.out.rdo' ROrders.ok H2.out) (K3.out.rdo' RInts.ok H3.out)).mono ?_
  rintro e w4 ⟨v4, rfl, r4, k4⟩
  rw [Q.out]
  have K4 := Lib.hid (K3.out.tr k4)
  have R4 := Lib.hid (k4.rdo' ROrders.ok R3.out)
  clear k4 r4 K3 R3
  go_wp2
  go_ret3
  exact ⟨_, rfl, R4.out, K4.out⟩

end Go.Proofs.YtcbpiidbkjaneaaGreat
