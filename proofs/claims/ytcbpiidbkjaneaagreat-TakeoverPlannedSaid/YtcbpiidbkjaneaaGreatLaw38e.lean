/- The statement TakeoverPlanned: its function returns true. No condition beyond the arguments' reading. -/
import Derived.Test.YtcbpiidbkjaneaaGreatTOrdA
import Derived.Test.YtcbpiidbkjaneaaGreatSameA
import Derived.Test.YtcbpiidbkjaneaaGreatRefC
import Derived.Test.YtcbpiidbkjaneaaGreatLaw38b
import Derived.Test.YtcbpiidbkjaneaaGreatEnt
import Derived.Test.YtcbpiidbkjaneaaGreatSortA
import Derived.Test.YtcbpiidbkjaneaaGreatMadeV
import Derived.Test.YtcbpiidbkjaneaaGreatOwnX
namespace Go.Proofs.YtcbpiidbkjaneaaGreat
open Go.RowKit

set_option maxRecDepth 100000 in
set_option maxHeartbeats 4000000 in
theorem TakeoverPlanned_any (lp le la : List Int) (A A2 A3 : Option Addr) (c c2 c3 : Nat) (budget : Int) (w : World) (h : RInts w (Old w) [.slice A lp.length c] lp) (h2 : RInts w (Old w) [.slice A2 le.length c2] le) (h3 : RInts w (Old w) [.slice A3 la.length c3] la) :
    Calls Tryz.prog 5 #[.slice A lp.length c, .slice A2 le.length c2, .slice A3 la.length c3, .int .i64 budget] w fun e w' => e = .returned (.bool true) ∧ KeepsAll w w' := by
  have H := Lib.hid h; clear h
  have H2 := Lib.hid h2; clear h2
  have H3 := Lib.hid h3; clear h3
  go_enter Tryz.func5, Tryz.ntmps5
  go_wp2_with fail
  refine (Paths_any lp A c w H.out).mono ?_
  rintro e w1 ⟨v, ps, rfl, rp, hm, k1⟩
  obtain ⟨B, d, rfl⟩ := rp.form
  have K1 := Lib.hid k1
  have M := Lib.hid hm
  have P1 := Lib.hid (RPaths.ok.mono rp (S' := Old w1) (fun b hb => hb.2) (fun _ _ => rfl))
  clear rp hm k1
  go_wp2_with fail
  refine (Enter_any ps le B A2 d c2 w1 P1.out (K1.out.rdo' RInts.ok H2.out) (by have := M.out.2.1; omega) (fun p hp => by have := (M.out.2.2 p hp).2.1; omega)).mono ?_
  rintro e w2 ⟨v, en, rfl, re, hen, k2⟩
  obtain ⟨B2, d2, rfl⟩ := re.form
  have K2 := Lib.hid (K1.out.tr k2)
  have P2 := Lib.hid (k2.rdo' RPaths.ok P1.out)
  have E2 := Lib.hid re
  have HEN := Lib.hid hen
  clear re hen k2 K1 P1
  have hok : sortOk ps en = true := by
    simp only [sortOk, Bool.and_eq_true, decide_eq_true_eq]
    exact ⟨⟨M.out.valid, HEN.out.1⟩, HEN.out.2.1⟩
  have HS : Hid (sortO ps en = (ordersTo ps en 144, 0)) := by show _ = _; unfold sortO; rw [hok]; rfl
  have HCK := Lib.hid (sortO_check hok)
  clear hok
  go_wp2_with fail
  refine (RefSort_any ps en B B2 d d2 w2 P2.out E2.out).mono ?_
  rintro e w3 ⟨v, rfl, ro, k3⟩
  rw [HS.out] at ro ⊢
  simp only [] at ro ⊢
  obtain ⟨B3, d3, hv3, _, _⟩ := ro.val
  subst hv3
  have K3 := Lib.hid (K2.out.tr k3)
  have P3 := Lib.hid (k3.rdo' RPaths.ok P2.out)
  have O3 := Lib.hid ro
  have HOE : Hid (∃ en', EnOk ps en' ∧ ordersTo ps en 144 = ordersTo ps en' 144) := ⟨en, HEN.out, rfl⟩
  generalize ordersTo ps en 144 = os at *
  clear ro k3 K2 P2 E2 HS
  go_wp2_with fail
  refine (At_any ps la B A3 d c3 w3 P3.out (K3.out.rdo' RInts.ok H3.out) M.out.s8 M.out.l M.out.pl).mono ?_
  rintro e w4 ⟨v, at_, rfl, ra, hg, k4⟩
  obtain ⟨B4, d4, rfl⟩ := ra.form
  have K4 := Lib.hid (K3.out.tr k4)
  have P4 := Lib.hid (k4.rdo' RPaths.ok P3.out)
  have O4 := Lib.hid (k4.rdo' ROrders.ok O3.out)
  have A4 := Lib.hid (RInts.ok.mono ra (S' := Old w4) (fun b hb => hb.2) (fun _ _ => rfl))
  have G4 := Lib.hid hg
  clear ra hg k4 K3 P3 O3
  have hps1 := M.out.1
  have HP := Lib.hid (good_Gd.1 G4.out)
  have al1 : at_.length = ps.length := HP.out.1
  have HAL := Lib.hid al1
  clear al1
  have QE : Hid ((lineP ps os at_).2 = okP ps os at_) := by show _ = _; unfold lineP; rw [HCK.out, G4.out]; cases okP ps os at_ <;> rfl
  go_wp2_with fail
  refine (RefLine_any ps os at_ B B3 B4 d d3 d4 w4 hps1 P4.out O4.out A4.out).mono ?_
  rintro e w5 ⟨v5, rfl, r5, k5⟩
  rw [QE.out]
  have K5 := Lib.hid (K4.out.tr k5)
  have P5 := Lib.hid (k5.rdo' RPaths.ok P4.out)
  have O5 := Lib.hid (k5.rdo' ROrders.ok O4.out)
  have A5 := Lib.hid (k5.rdo' RInts.ok A4.out)
  clear r5 k5 K4 P4 O4 A4
  by_cases g1 : okP ps os at_ = true
  · rw [g1]
    have G1 := Lib.hid g1
    have HCS := Lib.hid (okP_state HCK.out HP.out g1)
    clear g1
    go_wp2_with fail
    refine (CheckState_any ps at_ B B4 d d4 w5 P5.out A5.out).mono ?_
    rintro e w6 ⟨rfl, k6⟩
    rw [HCS.out]
    have K6 := Lib.hid (K5.out.tr k6)
    have P6 := Lib.hid (k6.rdo' RPaths.ok P5.out)
    have O6 := Lib.hid (k6.rdo' ROrders.ok O5.out)
    have A6 := Lib.hid (k6.rdo' RInts.ok A5.out)
    clear k6 K5 P5 O5 A5
    have pb := pick_range budget 1048576 (by omega)
    have hs1 : IntKind.i64.wrap (1 + pick budget 1048576) = 1 + pick budget 1048576 := IntWalk.i64_in _ (by omega)
    go_wp2_with (go_at_call 15; refine (Pick_any _ _ _ (by omega) (by omega)).mono ?_; rintro e w' ⟨rfl, rfl⟩)
    refine (TOrders_line ps os at_ (1 + pick budget 1048576) B B3 B4 d d3 d4 w6 P6.out O6.out A6.out HCK.out HCS.out ⟨by omega, by omega⟩ G1.out).mono ?_
    rintro e w7 ⟨v7, rfl, r7, k7⟩
    obtain ⟨B7, d7, rfl, _, _⟩ := r7.val
    have R7 := Lib.hid r7
    have K7 := Lib.hid (K6.out.tr k7)
    have P7 := Lib.hid (k7.rdo' RPaths.ok P6.out)
    have O7 := Lib.hid (k7.rdo' ROrders.ok O6.out)
    have A7 := Lib.hid (k7.rdo' RInts.ok A6.out)
    clear r7 k7 K6 P6 O6 A6 pb hs1
    go_wp2_with fail
    refine (awake38_any w7).mono ?_
    rintro e w8 ⟨rfl, k8⟩
    have K8 := Lib.hid k8; clear k8
    go_wp2_with fail
    refine (RefRest_any ps os at_ B B3 B4 d d3 d4 w8 (K8.out.rdo' RPaths.ok P7.out) (K8.out.rdo' ROrders.ok O7.out) (K8.out.rdo' RInts.ok A7.out)).mono ?_
    rintro e w9 ⟨v9, rfl, r9, k9⟩
    obtain ⟨B9, d9, rfl, _, _⟩ := r9.val
    have R9 := Lib.hid r9
    have S9 := Lib.hid ((K8.out.tr k9).rdo' ROrders.ok R7.out)
    have K9 := Lib.hid (K7.out.tr (K8.out.tr k9))
    clear r9 k9
    generalize restP ps os at_ = rs at *
    go_wp2_with fail
    refine (SameOrders_same rs B7 B9 d7 d9 w9 S9.out R9.out).mono ?_
    rintro e w10 ⟨rfl, k10⟩
    have K10 := Lib.hid (K9.out.tr k10); clear k10
    go_wp2
    go_ret
    exact ⟨rfl, K10.out⟩
  · have g1' : okP ps os at_ = false := by simpa using g1
    rw [g1']
    clear g1 g1'
    go_wp2_with fail
    refine (awake38_any w5).mono ?_
    rintro e w6 ⟨rfl, k6⟩
    have K6 := Lib.hid (K5.out.tr k6); clear k6
    go_wp2
    go_ret
    exact ⟨rfl, K6.out⟩

end Go.Proofs.YtcbpiidbkjaneaaGreat
