/- The statement TakeoverLine: its function returns true. No condition beyond the arguments' reading. -/
import Derived.Test.YtbfgmbakeofcbaaK32
import Derived.Test.YtbfgmbakeofcbaaK44
import Derived.Test.YtbfgmbakeofcbaaK45
import Derived.Test.YtbfgmbakeofcbaaK50
import Derived.Test.YtbfgmbakeofcbaaK20
import Derived.Test.YtbfgmbakeofcbaaK27
import Derived.Test.YtbfgmbakeofcbaaK33
import Derived.Test.YtbfgmbakeofcbaaK48
import Derived.Test.YtbfgmbakeofcbaaK26
import Derived.Test.YtbfgmbakeofcbaaK29
namespace Go.Proofs.Ytbfgmbakeofcbaa
open Go.RowKit

set_option maxRecDepth 100000 in
set_option maxHeartbeats 4000000 in
theorem TakeoverLine_any (lp le la : List Int) (A A2 A3 : Option Addr) (c c2 c3 : Nat) (w : World) (h : RInts w (Old w) [.slice A lp.length c] lp) (h2 : RInts w (Old w) [.slice A2 le.length c2] le) (h3 : RInts w (Old w) [.slice A3 la.length c3] la) :
    Calls Try.prog 3 #[.slice A lp.length c, .slice A2 le.length c2, .slice A3 la.length c3] w fun e w' => e = .returned (.bool true) ∧ KeepsAll w w' := by
  have H := Lib.hid h; clear h
  have H2 := Lib.hid h2; clear h2
  have H3 := Lib.hid h3; clear h3
  go_enter Try.func3, Try.ntmps3
  go_wp2_with fail
  refine (Paths_any lp A c w H.out).mono ?_
  rintro e w1 ⟨v, ps, rfl, rp, hm, k1⟩
  obtain ⟨B, d, rfl⟩ := rp.form
  have K1 := Lib.hid k1
  have M := Lib.hid hm
  have P1 := Lib.hid (RPaths.ok.mono rp (S' := Old w1) (fun b hb => hb.2) (fun _ _ => rfl))
  clear rp hm k1
  go_wp2_with fail
  refine (Enter_any ps le B A2 d c2 w1 P1.out (K1.out.rdo' RInts.ok H2.out) (by have := M.out.2.1; omega) (fun p hp => by have := (M.out.2.2 p hp).2.1; omega)).mono ?_
  rintro e w2 ⟨v, en, rfl, re, hen, k2⟩
  obtain ⟨B2, d2, rfl⟩ := re.form
  have K2 := Lib.hid (K1.out.tr k2)
  have P2 := Lib.hid (k2.rdo' RPaths.ok P1.out)
  have E2 := Lib.hid re
  have HEN := Lib.hid hen
  clear re hen k2 K1 P1
  have hok : sortOk ps en = true := by
    simp only [sortOk, Bool.and_eq_true, decide_eq_true_eq]
    exact ⟨⟨M.out.valid, HEN.out.1⟩, HEN.out.2.1⟩
  have HS : Hid (sortO ps en = (ordersTo ps en 144, 0)) := by show _ = _; unfold sortO; rw [hok]; rfl
  have HCK := Lib.hid (sortO_check hok)
  clear hok
  go_wp2_with fail
  refine (RefSort_any ps en B B2 d d2 w2 P2.out E2.out).mono ?_
  rintro e w3 ⟨v, rfl, ro, k3⟩
  rw [HS.out] at ro ⊢
  simp only [] at ro ⊢
  obtain ⟨B3, d3, hv3, _, _⟩ := ro.val
  subst hv3
  have K3 := Lib.hid (K2.out.tr k3)
  have P3 := Lib.hid (k3.rdo' RPaths.ok P2.out)
  have O3 := Lib.hid ro
  have HOE : Hid (∃ en', EnOk ps en' ∧ ordersTo ps en 144 = ordersTo ps en' 144) := ⟨en, HEN.out, rfl⟩
  generalize ordersTo ps en 144 = os at *
  clear ro k3 K2 P2 E2 HS
  go_wp2_with fail
  refine (At_any ps la B A3 d c3 w3 P3.out (K3.out.rdo' RInts.ok H3.out) M.out.s8 M.out.l M.out.pl).mono ?_
  rintro e w4 ⟨v, at_, rfl, ra, hg, k4⟩
  obtain ⟨B4, d4, rfl⟩ := ra.form
  have K4 := Lib.hid (K3.out.tr k4)
  have P4 := Lib.hid (k4.rdo' RPaths.ok P3.out)
  have O4 := Lib.hid (k4.rdo' ROrders.ok O3.out)
  have A4 := Lib.hid (RInts.ok.mono ra (S' := Old w4) (fun b hb => hb.2) (fun _ _ => rfl))
  have G4 := Lib.hid hg
  clear ra hg k4 K3 P3 O3
  have HPG := Lib.hid (good_Gd.1 G4.out)
  have hps1 := M.out.1
  have HTB := Lib.hid (take_bounds (ps := ps) (os := os) (at_ := at_) (budget := 1048576) HCK.out)
  have HTL := Lib.hid (take_line (os := os) (at_ := at_) (budget := 1048576) M.out HCK.out)
  have HTC := Lib.hid (take_codes (os := os) (at_ := at_) M.out HCK.out G4.out)
  go_wp2_with fail
  refine (TOrders_any ps os at_ 1048576 B B3 B4 d d3 d4 w4 M.out P4.out O4.out A4.out).mono ?_
  rintro e w5 ⟨v5, rfl, r5, k5⟩
  obtain ⟨B5, d5, rfl, _, _⟩ := r5.val
  have R5 := Lib.hid r5
  have K5 := Lib.hid (K4.out.tr k5)
  have P5 := Lib.hid (k5.rdo' RPaths.ok P4.out)
  have A5 := Lib.hid (k5.rdo' RInts.ok A4.out)
  clear r5 k5 K4 P4 O4 A4
  generalize (takeP ps os at_ 1048576).2.1 = n5 at *
  generalize (takeP ps os at_ 1048576).1 = l at *
  generalize (takeP ps os at_ 1048576).2.2 = cc at *
  rcases HTC.out with e | e | ⟨e, hcs⟩
  · rw [e]
    have HTF := Lib.hid (HTL.out e)
    clear HTL HTC e
    go_wp2_with fail
    refine (Whole_any ps at_ l B B4 B5 d d4 d5 w5 P5.out A5.out R5.out M.out.valid HPG.out HTB.out.1 HTB.out.2).mono ?_
    rintro e w6 ⟨v6, rfl, r6, k6⟩
    generalize wholeTo ps at_ l 144 = full at *
    obtain ⟨B6, d6, rfl, _, _⟩ := r6.val
    have R6 := Lib.hid r6
    have K6 := Lib.hid (K5.out.tr k6)
    have P6 := Lib.hid (k6.rdo' RPaths.ok P5.out)
    have A6 := Lib.hid (k6.rdo' RInts.ok A5.out)
    clear r6 k6 K5 P5 A5 R5
    have Q : Hid ((lineP ps full at_).2 = true) := by show _ = _; unfold lineP; rw [HTF.out.1, G4.out, HTF.out.2]; rfl
    go_wp2_with fail
    refine (RefLine_any ps full at_ B B6 B4 d d6 d4 w6 hps1 P6.out R6.out A6.out).mono ?_
    rintro e w7 ⟨v7, rfl, r7, k7⟩
    rw [Q.out]
    have K7 := Lib.hid (K6.out.tr k7)
    have P7 := Lib.hid (k7.rdo' RPaths.ok P6.out)
    have R7 := Lib.hid (k7.rdo' ROrders.ok R6.out)
    clear r7 k7 K6 P6 A6 R6
    go_wp2_with fail
    refine (awake38_any w7).mono ?_
    rintro e w8 ⟨rfl, k8⟩
    have K8 := Lib.hid (K7.out.tr k8)
    have P8 := Lib.hid (k8.rdo' RPaths.ok P7.out)
    have R8 := Lib.hid (k8.rdo' ROrders.ok R7.out)
    clear k8 K7 P7 R7
    go_wp2_with fail
    refine (RefCheck_any ps full B B6 d d6 w8 P8.out R8.out).mono ?_
    rintro e w9 ⟨rfl, k9⟩
    rw [HTF.out.1]
    have K9 := Lib.hid (K8.out.tr k9)
    clear k9 K8 P8 R8
    go_wp2
    go_ret
    exact ⟨rfl, K9.out⟩
  · rw [e]
    clear HTL HTC HTB e
    go_wp2_with fail
    refine (awake38_any w5).mono ?_
    rintro e w6 ⟨rfl, k6⟩
    have K6 := Lib.hid (K5.out.tr k6); clear k6
    go_wp2
    go_ret
    exact ⟨rfl, K6.out⟩
  · rw [e]
    have HCS := Lib.hid hcs
    clear HTL HTC HTB e hcs
    go_wp2_with fail
    refine (awake38_any w5).mono ?_
    rintro e w6 ⟨rfl, k6⟩
    have K6 := Lib.hid (K5.out.tr k6)
    have P6 := Lib.hid (k6.rdo' RPaths.ok P5.out)
    have A6 := Lib.hid (k6.rdo' RInts.ok A5.out)
    clear k6
    go_wp2_with fail
    refine (CheckState_any ps at_ B B4 d d4 w6 P6.out A6.out).mono ?_
    rintro e w7 ⟨rfl, k7⟩
    rw [HCS.out]
    have K7 := Lib.hid (K6.out.tr k7); clear k7
    go_wp2
    go_ret
    exact ⟨rfl, K7.out⟩

end Go.Proofs.Ytbfgmbakeofcbaa
