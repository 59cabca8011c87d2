/- Contract of deadlock.Check: it returns what the reference's CheckState returns. Conditions: as the theorem says. -/
import Derived.Test.YtcbpiidbkjaneaaGreatRdM
import Derived.Test.YtcbpiidbkjaneaaGreatLineP
import Derived.Test.YtcbpiidbkjaneaaGreatAtK
import Derived.Test.YtcbpiidbkjaneaaGreatCheckP
namespace Go.Proofs.YtcbpiidbkjaneaaGreat
open Go.RowKit

theorem heldOf_next {ps : List (List Stage)} {at_ : List Int} {k : Nat} {p : List Stage} {a : Int} (hl : at_.length = ps.length) (hp : ps[k]? = some p) (ha : at_[k]? = some a) : heldOf ps (at_.take (k + 1)) = heldOf ps (at_.take k) ++ (if a < 0 ∨ (p.length : Int) ≤ a then [] else [secAt p a]) := by
  have e : at_.take (k + 1) = at_.take k ++ [a] := by rw [List.take_add_one, ha]; rfl
  have hk := getElem?_lt ha
  rw [e, heldOf_snoc ps (at_.take k) p a (by rw [List.length_take, Nat.min_eq_left (by omega)]; exact hp)]

set_option maxRecDepth 100000 in
set_option maxHeartbeats 1000000 in
theorem DCheck_any (ps : List (List Stage)) (at_ : List Int) (A A2 : Option Addr) (c c2 : Nat) (w : World) (h : RPaths w (Old w) [.slice A ps.length c] ps) (h2 : RInts w (Old w) [.slice A2 at_.length c2] at_) :
    Calls Tryz.prog 29 #[.slice A ps.length c, .slice A2 at_.length c2] w fun e w' => e = .returned (.int .i64 (checkState ps at_)) ∧ KeepsAll w w' := by
  have hc := h.caps
  have hc2 := h2.caps
  have HV := Lib.hid (Valid_any ps A c w h)
  have H := Lib.hid h; clear h
  have H2 := Lib.hid h2; clear h2
  by_cases g0 : valid ps = true
  · have HVD := Lib.hid g0
    by_cases g1 : at_.length = ps.length
    · have g1' : ((at_.length : Int) != (ps.length : Int)) = false := by simp; omega
      have G1 := Lib.hid g1; clear g1
      have l1 : at_.length ≤ ps.length := by rw [G1.out]; exact Nat.le_refl _
      have l2 : ps.length ≤ at_.length := by rw [G1.out]; exact Nat.le_refl _
      go_enter Tryz.func29, Tryz.ntmps29
      go_wp2_with fail
      refine HV.out.mono ?_
      rintro e w1 ⟨rfl, k1⟩
      rw [g0]
      have K1 := Lib.hid k1
      have P1 := Lib.hid (k1.rdo' RPaths.ok H.out)
      have A1 := Lib.hid (k1.rdo' RInts.ok H2.out)
      clear k1 HV H H2 g0
      go_wp2
      go_loop [23] (fun i => ∃ k : Nat, k ≤ ps.length ∧ i = .int .i64 k ∧ GoodInv ps at_ k) (fun i => ps.length - (intOf i).toNat)
      case atStart => exact ⟨0, Nat.zero_le _, rfl, rfl⟩
      case round =>
        obtain ⟨k, hk, rfl, hinv⟩ := hrel
        by_cases hlt : k < ps.length
        · obtain ⟨b, o, p, A', c', hbo, _, hp, k1, hr⟩ := RSS.at_ P1.out hlt
          subst hbo
          obtain ⟨b2, o2, a, hbo, _, ha, k2⟩ := A1.out.at_ (k := k) (by omega)
          subst hbo
          have hcp := hr.caps
          clear hr
          by_cases g2 : a < -1
          · have Q := Lib.hid (hinv.stop hp ha (by simp [okPos]; omega))
            have g2' : decide (a < -1) = true := by simpa using g2
            have QQ : Hid (checkState ps at_ = 1) := by show _ = _; unfold checkState; rw [Q.out]; simp
            clear hp ha
            go_wp2
            go_ret
            exact ⟨by rw [QQ.out]; rfl, K1.out⟩
          · have g2' : decide (a < -1) = false := by simpa using g2
            by_cases g3 : (p.length : Int) < a
            · have Q := Lib.hid (hinv.stop hp ha (by simp [okPos]; omega))
              have QQ : Hid (checkState ps at_ = 1) := by show _ = _; unfold checkState; rw [Q.out]; simp
              clear hp ha
              go_wp2
              go_ret
              exact ⟨by rw [QQ.out]; rfl, K1.out⟩
            · have Q := Lib.hid (hinv.step hp ha (by simp [okPos]; omega))
              clear hp ha
              go_wp2
              go_round
              case rel => exact ⟨k + 1, by omega, by go_num, Q.out⟩
              case measure => simp [intOf]; omega
        · obtain rfl : k = ps.length := by omega
          have Q : Hid (good ps at_ = true) := by show good ps at_ = true; simp [good, G1.out, hinv.done]
          have HG := Lib.hid (good_Gd.1 Q.out)
          have HN : Hid (checkState ps at_ = if (heldOf ps at_).Nodup then 0 else 17) := by show _ = _; unfold checkState; rw [Q.out, HVD.out]; simp
          clear hinv hlt hk
          go_wp2
          generalize hW2 : World.alloc w1 _ = W2
          have BH : Hid (Blk W2 w1.heap.size 84 (cellsB (marks (heldOf ps (at_.take 0))))) := by
            subst hW2
            have e : heldOf ps (at_.take 0) = [] := by cases ps <;> rfl
            show Blk _ _ _ _
            rw [e, marks_nil]; exact Blk.new _ _ _
          have K2 : Hid (KeepsAll w1 W2) := by subst hW2; exact (Keeps.refl _ _).alloc _
          clear hW2
          go_loopw [45] (fun i wr => ∃ k : Nat, k ≤ ps.length ∧ i = .int .i64 k ∧ Blk wr w1.heap.size 84 (cellsB (marks (heldOf ps (at_.take k)))) ∧ (heldOf ps (at_.take k)).Nodup ∧ KeepsAll w1 wr) (fun i _ => ps.length - (intOf i).toNat)
          case atStart => exact ⟨0, Nat.zero_le _, rfl, BH.out, by cases ps <;> simp [heldOf], K2.out⟩
          case round =>
            clear BH K2
            obtain ⟨k, hk, rfl, hb, hnd, hkr⟩ := hrel
            have KR := Lib.hid hkr
            have HB := Lib.hid hb
            have HND := Lib.hid hnd
            clear hkr hb hnd
            by_cases hlt : k < ps.length
            · obtain ⟨b, o, p, A', c', hbo, hbl, hp, k1, hr⟩ := RSS.atK KR.out P1.out hlt
              subst hbo
              obtain ⟨b2, o2, a, hbo, hb2l, ha, k2⟩ := RInts.atK KR.out A1.out (k := k) (by omega)
              subst hbo
              have hcp := hr.caps
              have hG := HG.out.2 k hlt
              rw [nowAt_of ha, lenAt_of hp] at hG
              have HNX := Lib.hid (heldOf_next G1.out hp ha)
              by_cases g2 : a < 0
              · have g2' : decide (a < 0) = true := by simpa using g2
                have QN : Hid (heldOf ps (at_.take (k + 1)) = heldOf ps (at_.take k)) := by show _ = _; rw [HNX.out, if_pos (.inl g2)]; simp
                clear hp ha hr
                go_wp2
                go_roundw
                case rel => exact ⟨k + 1, by omega, by go_num, by rw [QN.out]; exact HB.out, by rw [QN.out]; exact HND.out, KR.out⟩
                case measure => simp [intOf]; omega
              · have g2' : decide (a < 0) = false := by simpa using g2
                by_cases g3 : a = (p.length : Int)
                · have g3' : (a == (p.length : Int)) = true := by simpa using g3
                  have QN : Hid (heldOf ps (at_.take (k + 1)) = heldOf ps (at_.take k)) := by show _ = _; rw [HNX.out, if_pos (.inr (by omega))]; simp
                  clear hp ha hr
                  go_wp2
                  go_roundw
                  case rel => exact ⟨k + 1, by omega, by go_num, by rw [QN.out]; exact HB.out, by rw [QN.out]; exact HND.out, KR.out⟩
                  case measure => simp [intOf]; omega
                · have g3' : (a == (p.length : Int)) = false := by simpa using g3
                  obtain ⟨j, rfl⟩ := Int.eq_ofNat_of_zero_le (by omega : 0 ≤ a)
                  have hj : j < p.length := by omega
                  obtain ⟨b3, o3, s, As, cs, hbo, hb3l, hs, m0, m1, m2, m3, hpts⟩ := RPath.atK KR.out hr hj
                  subst hbo
                  have hst := valid_stage HVD.out (List.mem_of_getElem? hp) (List.mem_of_getElem? hs)
                  obtain ⟨n, hn, hn144⟩ := isRes_nat (stageOk_sec hst)
                  have hsec : secAt p (j : Int) = (n : Int) := by unfold secAt; rw [if_neg (by omega)]; simp only [Int.toNat_natCast, hs]; exact hn
                  rw [if_neg (by omega), hsec] at HNX
                  rw [hn] at m0
                  have q0 := HB.out.cell n
                  rw [cellsB_get _ hn144] at q0
                  have q1 := HB.out.frozen n
                  have qz := HB.out.lt
                  clear hr hpts hst hs hp ha hsec hn
                  by_cases g4 : (n : Int) ∈ heldOf ps (at_.take k)
                  · rw [decide_eq_true g4] at q0
                    have QQ : Hid (checkState ps at_ = 17) := by
                      show _ = _
                      rw [HN.out, if_neg]
                      intro hnn
                      have h3 := List.Sublist.nodup (heldOf_sublist ps at_ (k + 1)) hnn
                      rw [HNX.out] at h3
                      exact (List.nodup_append.1 h3).2.2 _ g4 _ (by simp) rfl
                    clear g4
                    go_wp2
                    go_ret
                    exact ⟨by rw [QQ.out]; rfl, K1.out.tr KR.out⟩
                  · rw [decide_eq_false g4] at q0
                    have HBN : Hid (Blk (wr.setCell ⟨w1.heap.size, n, none⟩ (.bool true)) w1.heap.size 84 (cellsB (marks (heldOf ps (at_.take (k + 1)))))) := by
                      show Blk _ _ _ _
                      rw [HNX.out, ← cellsB_set]; exact HB.out.set_ n _
                    have HNN : Hid (heldOf ps (at_.take (k + 1))).Nodup := by
                      show List.Nodup _
                      rw [HNX.out]; exact nodup_snoc HND.out g4
                    have KN : Hid (KeepsAll w1 (wr.setCell ⟨w1.heap.size, n, none⟩ (.bool true))) := KR.out.setCell (fun h => absurd h (by simp)) _
                    clear g4
                    go_wp2
                    go_roundw
                    case rel => exact ⟨k + 1, by omega, by go_num, HBN.out, HNN.out, KN.out⟩
                    case measure => simp [intOf]; omega
            · obtain rfl : k = ps.length := by omega
              have QQ : Hid (checkState ps at_ = 0) := by
                show _ = _
                have h3 := HND.out
                rw [← G1.out, List.take_length] at h3
                rw [HN.out, if_pos h3]
              go_wp2
              go_ret
              exact ⟨by rw [QQ.out]; rfl, K1.out.tr KR.out⟩
    · have g1' : ((at_.length : Int) != (ps.length : Int)) = true := by simp; omega
      have QQ : Hid (checkState ps at_ = 1) := by show _ = _; unfold checkState good; simp [g1]
      go_enter Tryz.func29, Tryz.ntmps29
      go_wp2_with fail
      refine HV.out.mono ?_
      rintro e w1 ⟨rfl, k1⟩
      rw [g0]
      have K1 := Lib.hid k1; clear k1
      go_wp2
      go_ret
      exact ⟨by rw [QQ.out]; rfl, K1.out⟩
  · have g0' : valid ps = false := by simpa using g0
    have QQ : Hid (checkState ps at_ = 1) := by show _ = _; unfold checkState; simp [g0']
    clear g0
    go_enter Tryz.func29, Tryz.ntmps29
    go_wp2_with fail
    refine HV.out.mono ?_
    rintro e w1 ⟨rfl, k1⟩
    rw [g0']
    have K1 := Lib.hid k1; clear k1
    go_wp2
    go_ret
    exact ⟨by rw [QQ.out]; rfl, K1.out⟩

end Go.Proofs.YtcbpiidbkjaneaaGreat
