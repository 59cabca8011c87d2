/- Contract of the reference's Search: it returns what searchP says. Conditions: as the theorem says. -/
import Derived.Test.YtbfgmbakeofcbaaGreatK48
namespace Go.Proofs.YtbfgmbakeofcbaaGreat
open Go.RowKit

set_option maxRecDepth 100000 in
set_option maxHeartbeats 4000000 in
theorem RSearch_any (ps : List (List Stage)) (at_ : List Int) (budget : Int) (A A2 : Option Addr) (c c2 : Nat) (w : World) (h : RPaths w (Old w) [.slice A ps.length c] ps) (h2 : RInts w (Old w) [.slice A2 at_.length c2] at_) :
    Calls Tryz.prog 38 #[.slice A ps.length c, .slice A2 at_.length c2, .int .i64 budget] w fun e w' => ∃ v, e = .returned (.tuple #[v, .int .i64 (searchP ps at_ budget).2.1, .int .i64 (searchP ps at_ budget).2.2]) ∧ RInts w' (Fresh w w') [v] (searchP ps at_ budget).1 ∧ KeepsAll w w' := by
  have HCK := Lib.hid (CheckState_any ps at_ A A2 c c2 w h h2)
  have H := Lib.hid h
  have H2 := Lib.hid h2
  clear h h2
  by_cases g0 : checkState ps at_ = 0
  · rw [g0] at HCK
    obtain ⟨hv, hgd, _⟩ := checkState_zero g0
    have HV := Lib.hid hv
    have HG := Lib.hid (good_Gd.1 hgd)
    have HC := Lib.hid g0
    by_cases g1 : budget < 1
    · have g1' : decide (budget < 1) = true := by simpa using g1
      have Q : Hid (searchP ps at_ budget = ([], 0, 4)) := by show _ = _; unfold searchP; rw [if_neg (by simp [g0]), if_pos (.inl g1)]
      clear g0 g1
      go_enter Tryz.func38, Tryz.ntmps38
      go_wp2_with fail
      refine HCK.out.mono ?_
      rintro e w1 ⟨rfl, k1⟩
      have K1 := Lib.hid k1; clear k1
      go_wp2
      go_ret3
      rw [Q.out]
      exact ⟨_, rfl, RSlice.mkNil, K1.out⟩
    · have g1' : decide (budget < 1) = false := by simpa using g1
      by_cases g2 : 1048576 < budget
      · have g2' : decide (budget > 1048576) = true := by simpa using g2
        have Q : Hid (searchP ps at_ budget = ([], 0, 4)) := by show _ = _; unfold searchP; rw [if_neg (by simp [g0]), if_pos (.inr g2)]
        clear g0 g1 g2
        go_enter Tryz.func38, Tryz.ntmps38
        go_wp2_with fail
        refine HCK.out.mono ?_
        rintro e w1 ⟨rfl, k1⟩
        have K1 := Lib.hid k1; clear k1
        go_wp2
        go_ret3
        rw [Q.out]
        exact ⟨_, rfl, RSlice.mkNil, K1.out⟩
      · have g2' : decide (budget > 1048576) = false := by simpa using g2
        obtain ⟨b, rfl⟩ := Int.eq_ofNat_of_zero_le (by omega : 0 ≤ budget)
        have HQ : Hid (searchP ps at_ (b : Int) = if (exam ps b (total ps at_ + 1) at_ [] []).1 = 0 then ((exam ps b (total ps at_ + 1) at_ [] []).2.2, ((exam ps b (total ps at_ + 1) at_ [] []).2.1.length : Int), 0) else if (exam ps b (total ps at_ + 1) at_ [] []).1 = 19 then ([], ((exam ps b (total ps at_ + 1) at_ [] []).2.1.length : Int), 19) else ([], 0, 15)) := by
          show _ = _; unfold searchP; rw [if_neg (by simp [g0]), if_neg (by omega), Int.toNat_natCast]
        have HEX : Hid (∀ (w0 : World) (rb : Nat), RPaths w0 (Old w0) [.slice A ps.length c] ps → ∀ (W : World), RSr w0 W rb A c ps b 0 [] [] (.slice none 0 0) (.slice none 0 0) [] → RInts W (AtF W rb (.slice none 0 0) (.slice none 0 0)) [.slice A2 at_.length c2] at_ → _) := fun w0 rb hP W hS hat => rexam_any w0 rb A c ps b hP HV.out (by omega) (total ps at_ + 1) W at_ A2 c2 [] [] (.slice none 0 0) (.slice none 0 0) [] (by omega) HG.out hS (by simp) (by have := total_le HV.out HG.out; simp; omega) hat
        have HCODE := Lib.hid (exam_ok (ps := ps) (budget := b) (total ps at_ + 1) at_ HG.out (by omega) [] []).code
        have HLEN : Hid ((exam ps b (total ps at_ + 1) at_ [] []).2.1.length ≤ b) := (exam_ok (ps := ps) (budget := b) (total ps at_ + 1) at_ HG.out (by omega) [] []).le (by simp)
        generalize exam ps b (total ps at_ + 1) at_ [] [] = r at *
        have hb1 : b ≤ 1048576 := by omega
        clear g0 g1 g2
        go_enter Tryz.func38, Tryz.ntmps38
        go_wp2_with fail
        refine HCK.out.mono ?_
        rintro e w1 ⟨rfl, k1⟩
        have K1 := Lib.hid k1
        have P1 := Lib.hid (k1.rdo' RPaths.ok H.out)
        have A1 := Lib.hid (k1.rdo' RInts.ok H2.out)
        clear k1 HCK
        go_wp2_with fail
        generalize hW3 : World.alloc w1 _ = W3
        have HSR : Hid (RSr w1 W3 w1.heap.size A c ps b 0 [] [] (.slice none 0 0) (.slice none 0 0) []) := by
          subst hW3
          exact ⟨Blk.new _ _ _, OwnL.nil, OwnL.nil, rfl, fun j v x h => by simp at h, by simp, fun b h => by simp [Value.ownBlock] at h, Nat.le_refl _, (Keeps.refl _ _).alloc _⟩
        have HAT3 : Hid (RInts W3 (AtF W3 w1.heap.size (.slice none 0 0) (.slice none 0 0)) [.slice A2 at_.length c2] at_) := by
          subst hW3
          have kk : KeepsAll w1 (w1.alloc (.cells #[.slice A ps.length c, .int .i64 (b : Int), .int .i64 0, .slice none 0 0, .slice none 0 0] 108)) := (Keeps.refl _ _).alloc _
          exact kk.rd RInts.ok A1.out (fun bb hb => ⟨hb, by simp⟩) (fun bb hb => ⟨Nat.lt_of_lt_of_le hb kk.size, fun e => by
            have hb' : bb < w1.heap.size := hb
            rcases e with e | e | e
            · omega
            · simp [Value.ownBlock] at e
            · simp [Value.ownBlock] at e⟩)
        clear hW3
        generalize hrb : w1.heap.size = rb at *
        have HRB : Hid (w.heap.size ≤ rb) := by show _ ≤ _; rw [← hrb]; exact K1.out.size
        clear hrb
        refine (HEX.out w1 rb P1.out W3 HSR.out HAT3.out).mono ?_
        rintro e w5 ⟨rfl, hpost⟩
        obtain ⟨uC, vsC, vsnC, vplC, plC, hC, hu1, hu2, hp1, hp2, hevC⟩ := hpost.ex
        clear hpost hevC HEX HSR HAT3 hp2
        obtain ⟨e5, s5, m5⟩ := r
        simp only [] at hC hu1 hu2 hp1 HQ HCODE HLEN ⊢
        have H5 := Lib.hid hC
        have b2 := hC.b.cell 2
        simp at b2
        have hsz := hC.b.lt
        have K5 := Lib.hid (K1.out.tr hC.k)
        have hlen := HLEN.out
        clear hC
        rcases HCODE.out with hc | hc | hc
        · subst hc
          obtain rfl := hp1 rfl
          obtain rfl := hu1 (by omega)
          have Q : Hid (searchP ps at_ (b : Int) = (plC, (s5.length : Int), 0)) := by show _ = _; rw [HQ.out, if_pos rfl]
          obtain ⟨A5, c5, rfl, hc51, hc52⟩ := H5.out.po.form
          have b4 := H5.out.b.cell 4
          simp at b4
          have HRD : Hid (RInts w5 (Fresh w w5) [.slice A5 plC.length c5] plC) := H5.out.po.read RInt.ok (by omega) (S := Fresh w w5) (fun bb h1 h2 => ⟨by have := HRB.out; omega, h2⟩) (fun bb h1 h2 => ⟨by have := HRB.out; omega, h2⟩)
          clear HQ HCODE hp1 hu1 hu2
          rw [show decide ((0 : Int) = 0) = true from rfl]
          go_wp2
          go_quiet (fail)
          go_wp2
          go_ret3
          rw [Q.out]
          exact ⟨_, rfl, ((Keeps.refl (fun _ => False) w5).drewN _).rd RInts.ok HRD.out (fun bb hb => ⟨hb.2, by simp⟩) (fun _ h => h), K5.out.drewN _⟩
        · subst hc
          obtain rfl := hu2 rfl
          have Q : Hid (searchP ps at_ (b : Int) = ([], 0, 15)) := by show _ = _; rw [HQ.out, if_neg (by omega), if_neg (by omega)]
          have g6' : decide (b < b + 1) = true := by simp
          clear HQ HCODE hp1 hu1 hu2
          rw [show decide ((15 : Int) = 0) = false from rfl]
          go_wp2
          go_ret3
          rw [Q.out]
          exact ⟨_, rfl, RSlice.mkNil, K5.out⟩
        · subst hc
          obtain rfl := hu1 (by omega)
          have Q : Hid (searchP ps at_ (b : Int) = ([], (s5.length : Int), 19)) := by show _ = _; rw [HQ.out, if_neg (by omega), if_pos rfl]
          have g6' : decide (b < s5.length) = false := by simp; omega
          clear HQ HCODE hp1 hu1 hu2
          rw [show decide ((19 : Int) = 0) = false from rfl]
          go_wp2
          go_quiet (fail)
          go_wp2
          go_ret3
          rw [Q.out]
          exact ⟨_, rfl, RSlice.mkNil, K5.out.drewN _⟩
  · have g0' : (checkState ps at_ != 0) = true := by simpa using g0
    have Q : Hid (searchP ps at_ budget = ([], 0, checkState ps at_)) := by show _ = _; unfold searchP; rw [if_pos (by simpa using g0)]
    clear g0
    go_enter Tryz.func38, Tryz.ntmps38
    go_wp2_with fail
    refine HCK.out.mono ?_
    rintro e w1 ⟨rfl, k1⟩
    have K1 := Lib.hid k1; clear k1 HCK
    generalize checkState ps at_ = cs at *
    go_wp2
    go_ret3
    rw [Q.out]
    exact ⟨_, rfl, RSlice.mkNil, K1.out⟩

end Go.Proofs.YtbfgmbakeofcbaaGreat
