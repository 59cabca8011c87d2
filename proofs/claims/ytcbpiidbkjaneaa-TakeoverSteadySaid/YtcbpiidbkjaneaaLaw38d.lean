/- The statement TakeoverSteady: its function returns true. No condition beyond the arguments' reading. -/
import Derived.Test.YtcbpiidbkjaneaaTOrdA
import Derived.Test.YtcbpiidbkjaneaaSameA
import Derived.Test.YtcbpiidbkjaneaaRefC
import Derived.Test.YtcbpiidbkjaneaaLaw38b
import Derived.Test.YtcbpiidbkjaneaaEnt
import Derived.Test.YtcbpiidbkjaneaaSortA
import Derived.Test.YtcbpiidbkjaneaaMadeV
import Derived.Test.YtcbpiidbkjaneaaOwnX
namespace Go.Proofs.Ytcbpiidbkjaneaa
open Go.RowKit

set_option maxRecDepth 100000 in
set_option maxHeartbeats 4000000 in
theorem TakeoverSteady_any (lp le : List Int) (A A2 : Option Addr) (c c2 : Nat) (moves : Int) (w : World) (h : RInts w (Old w) [.slice A lp.length c] lp) (h2 : RInts w (Old w) [.slice A2 le.length c2] le) :
    Calls Try.prog 5 #[.slice A lp.length c, .slice A2 le.length c2, .int .i64 moves] w fun e w' => e = .returned (.bool true) ∧ KeepsAll w w' := by
  have H := Lib.hid h; clear h
  have H2 := Lib.hid h2; clear h2
  go_enter Try.func5, Try.ntmps5
  go_wp2_with fail
  refine (Paths_any lp A c w H.out).mono ?_
  rintro e w1 ⟨v, ps, rfl, rp, hm, k1⟩
  obtain ⟨B, d, rfl⟩ := rp.form
  have K1 := Lib.hid k1
  have M := Lib.hid hm
  have P1 := Lib.hid (RPaths.ok.mono rp (S' := Old w1) (fun b hb => hb.2) (fun _ _ => rfl))
  clear rp hm k1
  go_wp2_with fail
  refine (Enter_any ps le B A2 d c2 w1 P1.out (K1.out.rdo' RInts.ok H2.out) (by have := M.out.2.1; omega) (fun p hp => by have := (M.out.2.2 p hp).2.1; omega)).mono ?_
  rintro e w2 ⟨v, en, rfl, re, hen, k2⟩
  obtain ⟨B2, d2, rfl⟩ := re.form
  have K2 := Lib.hid (K1.out.tr k2)
  have P2 := Lib.hid (k2.rdo' RPaths.ok P1.out)
  have E2 := Lib.hid re
  have HEN := Lib.hid hen
  clear re hen k2 K1 P1
  have hok : sortOk ps en = true := by
    simp only [sortOk, Bool.and_eq_true, decide_eq_true_eq]
    exact ⟨⟨M.out.valid, HEN.out.1⟩, HEN.out.2.1⟩
  have HS : Hid (sortO ps en = (ordersTo ps en 144, 0)) := by show _ = _; unfold sortO; rw [hok]; rfl
  have HCK := Lib.hid (sortO_check hok)
  clear hok
  go_wp2_with fail
  refine (RefSort_any ps en B B2 d d2 w2 P2.out E2.out).mono ?_
  rintro e w3 ⟨v, rfl, ro, k3⟩
  rw [HS.out] at ro ⊢
  simp only [] at ro ⊢
  obtain ⟨B3, d3, hv3, _, _⟩ := ro.val
  subst hv3
  have K3 := Lib.hid (K2.out.tr k3)
  have P3 := Lib.hid (k3.rdo' RPaths.ok P2.out)
  have O3 := Lib.hid ro
  have HOE : Hid (∃ en', EnOk ps en' ∧ ordersTo ps en 144 = ordersTo ps en' 144) := ⟨en, HEN.out, rfl⟩
  generalize ordersTo ps en 144 = os at *
  clear ro k3 K2 P2 E2 HS
  have hps1 := M.out.1
  have hps3 := M.out.2.1
  have hmk := mkInts ps.length (by omega)
  go_wp2
  generalize hW2 : World.alloc w3 _ = W2
  have KW2 : KeepsAll w3 W2 := by subst hW2; exact (Keeps.refl _ _).alloc _
  have BT : Hid (Blk W2 w3.heap.size 3 (cellsI (List.replicate ps.length 0))) := by subst hW2; exact Blk.new _ _ _
  have KK2 := Lib.hid KW2
  clear hW2 hmk KW2
  go_loopw [34] (fun v wr => ∃ k : Nat, k ≤ ps.length ∧ v = .int .i64 k ∧ Blk wr w3.heap.size 3 (cellsI (List.replicate k (-1) ++ List.replicate (ps.length - k) 0)) ∧ KeepsAll w3 wr) (fun v _ => ps.length - (intOf v).toNat)
  case atStart => exact ⟨0, Nat.zero_le _, rfl, by simpa using BT.out, KK2.out⟩
  case round =>
    obtain ⟨k, hk, rfl, hb, hkr⟩ := hrel
    clear BT KK2
    have KR := Lib.hid hkr
    have HB := Lib.hid hb
    by_cases hlt : k < ps.length
    · have q0 := hb.cell k
      have q1 := hb.frozen k
      have qz := hb.lt
      have e : (List.replicate k (-1) ++ List.replicate (ps.length - k) (0 : Int))[k]? = some 0 := by
        rw [List.getElem?_append_right (by simp), List.length_replicate, Nat.sub_self, List.getElem?_replicate, if_pos (by omega)]
      rw [cellsI_at e] at q0
      have HN : Hid (Blk (wr.setCell ⟨w3.heap.size, k, none⟩ (.int .i64 (-1))) w3.heap.size 3 (cellsI (List.replicate (k + 1) (-1) ++ List.replicate (ps.length - (k + 1)) 0))) := by
        have := HB.out.set_ k (.int .i64 (-1))
        have e2 : (List.replicate k (-1) ++ List.replicate (ps.length - k) (0 : Int)).set k (-1) = List.replicate (k + 1) (-1) ++ List.replicate (ps.length - (k + 1)) 0 := by
          rw [List.set_append_right _ _ (by simp), List.length_replicate, Nat.sub_self, show ps.length - k = (ps.length - (k + 1)) + 1 from by omega, List.replicate_succ, List.set_cons_zero, List.replicate_succ', List.append_assoc]; rfl
        rw [cellsI_set, e2] at this; exact this
      have KN : Hid (KeepsAll w3 (wr.setCell ⟨w3.heap.size, k, none⟩ (.int .i64 (-1)))) := KR.out.setCell (fun h => absurd h (by simp)) _
      clear hb e hkr HB KR
      go_wp2
      go_roundw
      case rel => exact ⟨k + 1, by omega, by go_num, HN.out, KN.out⟩
      case measure => simp [intOf]; omega
    · obtain rfl : k = ps.length := by omega
      clear hb hkr hk hlt
      have HG : Hid (Gd ps (List.replicate ps.length (-1))) := ⟨by simp, fun t ht => by
        rw [nowAt_of (x := -1) (by rw [List.getElem?_replicate, if_pos ht])]; omega⟩
      have BA : Hid (Blk wr w3.heap.size 3 (cellsI (List.replicate ps.length (-1)))) := by
        have h := HB.out
        rw [Nat.sub_self, List.replicate_zero, List.append_nil] at h
        exact h
      have P4 := Lib.hid (KR.out.rdo' RPaths.ok P3.out)
      have O4 := Lib.hid (KR.out.rdo' ROrders.ok O3.out)
      clear HB
      generalize wr = w4 at *
      generalize hAT : List.replicate ps.length (-1 : Int) = at_ at *
      have hatl : at_.length = ps.length := by rw [← hAT]; simp
      have HATL := Lib.hid hatl
      clear hAT hatl
      have hw3 : w3.heap.size < w4.heap.size := BA.out.lt
      have HLN : Hid (Calls Try.prog 14 #[.slice B ps.length d, .slice B3 os.length d3, .slice (some ⟨w3.heap.size, 0, none⟩) ps.length ps.length] w4 fun e w' => ∃ v, e = .returned (.tuple #[v, .bool (lineP ps os at_).2]) ∧ RRefs w' (Fresh w4 w') [v] (lineP ps os at_).1 ∧ KeepsAll w4 w') := by
        show Calls _ _ _ _ _
        have hr := Blk.ints BA.out (S := Old w4) hw3 (by rw [HATL.out]; omega)
        have := RefLine_fresh ps os at_ B B3 (some ⟨w3.heap.size, 0, none⟩) d d3 at_.length w4 hps1 P4.out O4.out hr
        rw [HATL.out] at this
        exact this
      have hzz : w3.heap.size ≤ w3.heap.size := Nat.le_refl _
      have K34 := Lib.hid KR.out
      clear KR
      generalize hza : w3.heap.size = za at *
      go_wp2_with fail
      refine HLN.out.mono ?_
      rintro e w5 ⟨v5, rfl, r5, k5⟩
      have K5 := Lib.hid k5
      clear k5 HLN
      by_cases g1 : okP ps os at_ = true
      · have Q1 : lineP ps os at_ = ((runP ps os at_).1, true) := by unfold lineP; rw [HCK.out, good_Gd.2 HG.out, g1]; rfl
        rw [Q1] at r5 ⊢
        simp only [] at r5 ⊢
        have HST := Lib.hid (fun m (hm : m ≤ (runP ps os at_).1.length) => steady HCK.out HG.out g1 hm)
        have HFL := Lib.hid (full_of HCK.out (good_Gd.2 HG.out) g1)
        have hrl := runP_len (os := os) M.out.valid HG.out
        clear Q1 g1
        generalize (runP ps os at_).1 = L at *
        obtain ⟨Bl, dl, rfl, hdl1, hdl2⟩ := r5.val
        have L5 := Lib.hid r5
        clear r5
        have pm := pick_range moves ((L.length : Int) + 1) (by omega)
        have hs1 : IntKind.i64.wrap ((L.length : Int) + 1) = (L.length : Int) + 1 := IntWalk.i64_in _ (by omega)
        have HPK : Hid (∀ W, Calls Try.prog 17 #[.int .i64 moves, .int .i64 ((L.length : Int) + 1)] W fun e w' => e = .returned (.int .i64 (pick moves ((L.length : Int) + 1))) ∧ W = w') := fun W => Pick_any _ _ W (by omega) (by omega)
        obtain ⟨m, hm⟩ := Int.eq_ofNat_of_zero_le pm.1
        rw [hm] at HPK pm
        have hmL : m ≤ L.length := by omega
        clear hm pm
        have BA5 := Lib.hid (BA.out.kept K5.out (by simp))
        go_wp2_with (go_at_call 17; refine (HPK.out _).mono ?_; rintro e w' ⟨rfl, rfl⟩)
        clear hs1
        go_loopw [59] (fun v wr => ∃ j : Nat, j ≤ m ∧ v = .int .i64 (j : Int) ∧ Blk wr za 3 (cellsI (play at_ (L.take j))) ∧ Keeps (fun b => b = za) w5 wr ∧ KeepsAll w3 wr) (fun v _ => m - (intOf v).toNat)
        case atStart => exact ⟨0, Nat.zero_le _, rfl, BA5.out, Keeps.refl _ _, K34.out.tr K5.out⟩
        case round =>
          obtain ⟨j, hj, rfl, hb, hkr, hk3⟩ := hrel
          have KR := Lib.hid hkr
          have K3R := Lib.hid hk3
          have HB := Lib.hid hb
          have hzw := hb.lt
          clear hb hkr hk3 BA5
          have HPL := Lib.hid (play_len (L.take j) at_)
          by_cases hlt : j < m
          · have hLr : RRefs wr (Fresh w4 w5) [.slice Bl L.length dl] L := KR.out.rd RRefs.ok L5.out (fun b hb => ⟨hb.2, fun e => by have := hb.1; omega⟩) (fun _ h => h)
            obtain ⟨bu, ou, u, hbo, hbu, hu, n0, n1⟩ := RRefs.at_ hLr (k := j) (by omega)
            subst hbo
            have hbw : bu < wr.heap.size := Nat.lt_of_lt_of_le hbu.2 KR.out.size
            obtain ⟨t, k, p, hp, hkp, hue⟩ := HFL.out.ev u (List.mem_of_getElem? hu)
            subst hue
            simp only [] at n0 n1
            have htl := getElem?_lt hp
            have HNX : Hid (play at_ (L.take (j + 1)) = (play at_ (L.take j)).set t (k : Int)) := by
              show _ = _
              have e : L.take (j + 1) = L.take j ++ [⟨(t : Int), (k : Int)⟩] := by rw [List.take_add_one, hu]; rfl
              rw [e, play_snoc]; simp
            generalize play at_ (L.take j) = now at *
            have hnl : t < now.length := by rw [HPL.out, HATL.out]; exact htl
            have hdm : decide ((j : Int) < (m : Int)) = true := by simp; omega
            have q0 := HB.out.cell t
            rw [cellsI_at (List.getElem?_eq_getElem hnl)] at q0
            have q1 := HB.out.frozen t
            have HBN : Hid (Blk (wr.setCell ⟨za, t, none⟩ (.int .i64 (k : Int))) za 3 (cellsI (play at_ (L.take (j + 1))))) := by
              show Blk _ _ _ _
              rw [HNX.out, ← cellsI_set]; exact HB.out.set_ t _
            have KN : Hid (Keeps (fun b => b = za) w5 (wr.setCell ⟨za, t, none⟩ (.int .i64 (k : Int)))) := KR.out.setCell (p := ⟨za, t, none⟩) (fun _ => rfl) _
            have K3N : Hid (KeepsAll w3 (wr.setCell ⟨za, t, none⟩ (.int .i64 (k : Int)))) := K3R.out.setCell (fun h => absurd h (by simp; omega)) _
            clear hLr hu hp hkp hbu
            go_wp2
            go_roundw
            case rel => exact ⟨j + 1, by omega, by go_num, HBN.out.alloc _, KN.out.alloc _, K3N.out.alloc _⟩
            case measure => simp [intOf]; omega
          · obtain rfl : j = m := by omega
            have hdm : decide ((j : Int) < (j : Int)) = false := by simp
            have HSJ := Lib.hid (HST.out j hmL)
            have P6 := Lib.hid (K3R.out.rdo' RPaths.ok P3.out)
            have O6 := Lib.hid (K3R.out.rdo' ROrders.ok O3.out)
            have K6 := Lib.hid (K3.out.tr K3R.out)
            have HAL : Hid ((play at_ (L.take j)).length = ps.length) := by show _ = _; rw [HPL.out, HATL.out]
            generalize play at_ (L.take j) = at2 at *
            have A6 : Hid (RInts wr (Old wr) [.slice (some ⟨za, 0, none⟩) ps.length ps.length] at2) := by
              have := Blk.ints HB.out (S := Old wr) hzw (by rw [HAL.out]; omega)
              rw [HAL.out] at this
              exact this
            have HTO : Hid (Calls Try.prog 10 #[.slice B ps.length d, .slice B3 os.length d3, .slice (some ⟨za, 0, none⟩) ps.length ps.length, .int .i64 1] wr fun e w' => ∃ v, e = .returned (.tuple #[v, .int .i64 0, .int .i64 0]) ∧ ROrders w' (Old w') [v] (restP ps os at2) ∧ KeepsAll wr w') := by
              have := TOrders_line ps os at2 1 B B3 (some ⟨za, 0, none⟩) d d3 ps.length wr P6.out O6.out (by rw [HAL.out]; exact A6.out) HCK.out (okP_state HCK.out HSJ.out.1 HSJ.out.2) ⟨by omega, by omega⟩ HSJ.out.2
              rw [HAL.out] at this
              exact this
            have HRR : Hid (∀ W, KeepsAll wr W → Calls Try.prog 19 #[.slice B ps.length d, .slice B3 os.length d3, .slice (some ⟨za, 0, none⟩) ps.length ps.length] W fun e w' => ∃ v, e = .returned v ∧ ROrders w' (Old w') [v] (restP ps os at2) ∧ KeepsAll W w') := fun W hW => by
              have := RefRest_any ps os at2 B B3 (some ⟨za, 0, none⟩) d d3 ps.length W (hW.rdo' RPaths.ok P6.out) (hW.rdo' ROrders.ok O6.out) (by rw [HAL.out]; exact hW.rdo' RInts.ok A6.out)
              rw [HAL.out] at this
              exact this
            generalize restP ps os at2 = rs at *
            clear HB KR
            go_wp2_with fail
            refine HTO.out.mono ?_
            rintro e w7 ⟨v7, rfl, r7, k7⟩
            obtain ⟨B7, d7, rfl, _, _⟩ := r7.val
            have R7 := Lib.hid r7
            have K7 := Lib.hid k7
            clear r7 k7
            go_wp2_with fail
            refine (awake38_any w7).mono ?_
            rintro e w8 ⟨rfl, k8⟩
            have K8 := Lib.hid k8; clear k8
            go_wp2_with fail
            refine (HRR.out w8 (K7.out.tr K8.out)).mono ?_
            rintro e w9 ⟨v9, rfl, r9, k9⟩
            obtain ⟨B9, d9, rfl, _, _⟩ := r9.val
            have R9 := Lib.hid r9
            have S9 := Lib.hid ((K8.out.tr k9).rdo' ROrders.ok R7.out)
            have K9 := Lib.hid (K6.out.tr (K7.out.tr (K8.out.tr k9)))
            clear r9 k9
            go_wp2_with fail
            refine (SameOrders_same rs B7 B9 d7 d9 w9 S9.out R9.out).mono ?_
            rintro e w10 ⟨rfl, k10⟩
            have K10 := Lib.hid (K9.out.tr k10); clear k10
            go_wp2
            go_ret
            exact ⟨rfl, K10.out⟩
      · have g1' : okP ps os at_ = false := by simpa using g1
        have Q1 : lineP ps os at_ = ([], false) := by unfold lineP; rw [HCK.out, good_Gd.2 HG.out, g1']; rfl
        rw [Q1]
        simp only []
        clear g1 g1' Q1 r5
        go_wp2_with fail
        refine (awake38_any w5).mono ?_
        rintro e w6 ⟨rfl, k6⟩
        have K6 := Lib.hid (K3.out.tr (K34.out.tr (K5.out.tr k6))); clear k6
        go_wp2
        go_ret
        exact ⟨rfl, K6.out⟩

end Go.Proofs.Ytcbpiidbkjaneaa
