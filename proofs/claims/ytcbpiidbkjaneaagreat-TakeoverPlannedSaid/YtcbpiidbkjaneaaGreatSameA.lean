/- Contracts of SameOrders and SameLists at equal lists. Conditions: as each theorem says. -/
import Derived.Test.YtcbpiidbkjaneaaGreatOverA
namespace Go.Proofs.YtcbpiidbkjaneaaGreat
open Go.RowKit

set_option maxHeartbeats 1000000 in
theorem SameOrders_same (l : List Order) (A A2 : Option Addr) (c c2 : Nat) (w : World) (h : ROrders w (Old w) [.slice A l.length c] l) (h2 : ROrders w (Old w) [.slice A2 l.length c2] l) :
    Calls Tryz.prog 16 #[.slice A l.length c, .slice A2 l.length c2] w fun e w' => e = .returned (.bool true) ∧ KeepsAll w w' := by
  have hc := h.caps
  have hc2 := h2.caps
  have H := Lib.hid h; clear h
  have H2 := Lib.hid h2; clear h2
  go_enter Tryz.func16, Tryz.ntmps16
  go_wp2
  go_loopw [13] (fun v wr => ∃ k : Nat, k ≤ l.length ∧ v = .int .i64 (k : Int) ∧ KeepsAll w wr) (fun v _ => l.length - (intOf v).toNat)
  case atStart => exact ⟨0, Nat.zero_le _, rfl, Keeps.refl _ _⟩
  case round =>
    obtain ⟨k, hk, rfl, hkr⟩ := hrel
    have KR := Lib.hid hkr; clear hkr
    by_cases hlt : k < l.length
    · obtain ⟨b, o, x, Ax, cx, hbo, hb, hx, m0, m1, hus⟩ := ROrders.atK KR.out H.out hlt
      subst hbo
      obtain ⟨b2, o2, y, Ay, cy, hbo, hb2, hy, n0, n1, hus2⟩ := ROrders.atK KR.out H2.out hlt
      subst hbo
      obtain rfl := same_of hx hy
      have HCL : Hid (∀ xx : Ext wr, Calls Tryz.prog 42 #[.slice Ax x.uses.length cx, .slice Ay x.uses.length cy] xx.val fun e w'' => e = .returned (.bool true) ∧ ∃ y : Ext wr, w'' = y.val) := fun xx => ext_call xx ((SameRef_any x.uses x.uses Ax Ay cx cy xx.val (Old xx.val) (Old xx.val) ((KR.out.tr xx.keeps).rdo' RRefs.ok hus) ((KR.out.tr xx.keeps).rdo' RRefs.ok hus2)).mono (fun e w' ⟨h1, n, h2⟩ => ⟨h1.trans (by simp), by rw [h2]; exact (Keeps.refl _ _).drewN _⟩))
      clear hx hy hus hus2
      have hne : (x.res != x.res) = false := by simp
      have hdk : decide ((k : Int) < (l.length : Int)) = true := by simp; omega
      go_wp2
      refine wp_region_ext (by kernel_rfl) (by kernel_rfl) ?_
      have y0 := Ext.cell m0
      have y1 := Ext.cell m1
      have y2 := Ext.cell n0
      have y3 := Ext.cell n1
      repeat (go_big_quiet_step ((go_at_call 42; exact HCL.out _)))
      refine wpQuiet_nil ?_
      rintro _ ⟨X, rfl⟩
      have KX := Lib.hid (KR.out.tr X.keeps)
      clear y0 y1 y2 y3 m0 m1 n0 n1 HCL
      generalize X.val = WX at *
      go_wp2
      go_roundw
      case rel => exact ⟨k + 1, by omega, by go_num, KX.out⟩
      case measure => simp [intOf]; omega
    · obtain rfl : k = l.length := by omega
      have hdk : decide ((l.length : Int) < (l.length : Int)) = false := by simp
      go_wp2
      go_ret
      exact ⟨rfl, KR.out⟩


end Go.Proofs.YtcbpiidbkjaneaaGreat
