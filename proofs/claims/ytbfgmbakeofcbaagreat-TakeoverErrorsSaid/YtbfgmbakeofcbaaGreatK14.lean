/- Contract of the reference's Identify. Conditions: as the theorem says. -/
import Derived.Test.YtbfgmbakeofcbaaGreatK13
namespace Go.Proofs.YtbfgmbakeofcbaaGreat
open Go.RowKit

theorem stepsFrom_ok (p : List Stage) : ∀ (l : List Stage) (k : Nat), stepsFrom p k l = true → ∀ s ∈ l, stageOk s = true
  | [], _, _ => by simp
  | x :: l, k, h => by
    simp only [stepsFrom, Bool.and_eq_true] at h
    intro s hs
    rcases List.mem_cons.1 hs with rfl | hs
    · have := h.1; simp only [stepOk, Bool.and_eq_true] at this; exact this.1
    · exact stepsFrom_ok p l (k + 1) h.2 s hs
theorem valid_secs {ps : List (List Stage)} (h : valid ps = true) : secsNonneg ps := by
  intro p hp s hs
  simp only [valid, Bool.and_eq_true, decide_eq_true_eq, List.all_eq_true] at h
  have := h.1.2 p hp
  simp only [pathOk, Bool.and_eq_true, decide_eq_true_eq] at this
  have := stepsFrom_ok p p 0 this.2 s hs
  simp only [stageOk, isRes, Bool.and_eq_true, decide_eq_true_eq] at this
  omega

set_option maxRecDepth 100000 in
set_option maxHeartbeats 1000000 in
theorem RefIdentify_any (ps : List (List Stage)) (exp occ : List Int) (budget : Int) (A A2 A3 : Option Addr) (c c2 c3 : Nat) (w : World) (h : RPaths w (Old w) [.slice A ps.length c] ps) (h2 : RInts w (Old w) [.slice A2 exp.length c2] exp) (h3 : RInts w (Old w) [.slice A3 occ.length c3] occ) :
    Calls Tryz.prog 8 #[.slice A ps.length c, .slice A2 exp.length c2, .slice A3 occ.length c3, .int .i64 budget] w fun e w' => ∃ v, e = .returned (.tuple #[v, .int .i64 (identify ps exp occ budget).2.1, .int .i64 (identify ps exp occ budget).2.2]) ∧ RInts w' (Fresh w w') [v] (identify ps exp occ budget).1 ∧ KeepsAll w w' := by
  have hc := h.caps
  have hc2 := h2.caps
  have hc3 := h3.caps
  have H := Lib.hid h; clear h
  have H2 := Lib.hid h2; clear h2
  have H3 := Lib.hid h3; clear h3
  by_cases g1 : valid ps = true
  · go_enter Tryz.func8, Tryz.ntmps8
    go_wp2_with fail
    refine (RefValid_any ps A c w H.out).mono ?_
    rintro e w1 ⟨rfl, k1⟩
    have H1 := Lib.hid (k1.rd RPaths.ok H.out (fun b hb => ⟨hb, by simp⟩) (fun _ h => h))
    have H21 := Lib.hid (k1.rd RInts.ok H2.out (fun b hb => ⟨hb, by simp⟩) (fun _ h => h))
    have H31 := Lib.hid (k1.rd RInts.ok H3.out (fun b hb => ⟨hb, by simp⟩) (fun _ h => h))
    have K1 := Lib.hid k1; clear k1
    by_cases g2 : good ps exp = true
    · go_wp2_with (go_at_call 26; refine (rGood_any ps exp A A2 c c2 _ (Old w) (Old w) H1.out H21.out).mono ?_; rintro e w2 ⟨rfl, rfl⟩)
      go_loopw [11] (fun i wr => ∃ k n : Nat, (k ≤ occ.length ∨ k = 1) ∧ 1 ≤ k ∧ i = .int .i64 k ∧ AscInv occ k ∧ wr = w1.drewN n) (fun i _ => occ.length - (intOf i).toNat)
      case atStart => exact ⟨1, 0, .inr rfl, Nat.le_refl _, rfl, rfl, rfl⟩
      case round =>
        obtain ⟨k, n, hk, hk0, rfl, hasc, rfl⟩ := hrel
        by_cases hlt : k < occ.length
        · obtain ⟨b, o, x, rfl, _, hx, k1⟩ := H31.out.at_ hlt
          obtain ⟨b', o', y, hbo, _, hy, k2⟩ := H31.out.at_ (k := k - 1) (by omega)
          injection hbo with hbo; injection hbo with hbo1 hbo2; subst hbo1 hbo2
          clear hk
          by_cases hxy : x ≤ y
          · have Q : Hid (identify ps exp occ budget = ([], 0, 1)) := by show identify ps exp occ budget = _; simp [identify, g1, g2, hasc.stop hk0 hy hx hxy]
            clear hx hy
            go_wp2
            go_quiet (fail)
            go_wp2
            go_ret3
            rw [Q.out]
            exact ⟨_, rfl, RSlice.mkNil, (K1.out.drewN _).drewN _⟩
          · have Q := Lib.hid (hasc.step hk0 hy hx (by omega))
            clear hx hy
            go_wp2
            go_quiet (fail)
            go_wp2
            go_roundw
            case rel => exact ⟨k + 1, _, .inl (by omega), by omega, by go_num, Q.out, rfl⟩
            case measure => simp [intOf]; omega
        · have HASC : Hid (ascend occ = true) := by
            by_cases he : k = occ.length
            · subst he; exact hasc.done
            · have : occ.length = 0 := by omega
              have : occ = [] := List.length_eq_zero_iff.1 this
              subst this; rfl
          clear hasc hk
          have HK0 : Hid (KeepsAll w (w1.drewN n)) := K1.out.drewN n
          by_cases g3 : budget < 1 ∨ 1048576 < budget
          · have Q : Hid (identify ps exp occ budget = ([], 0, 4)) := by show identify ps exp occ budget = _; simp [identify, g1, g2, HASC.out, g3]
            rcases g3 with g3 | g3
            · go_wp2
              go_ret3
              rw [Q.out]
              exact ⟨_, rfl, RSlice.mkNil, HK0.out⟩
            · have g3' : decide (budget < 1) = false := by simp; omega
              go_wp2
              go_ret3
              rw [Q.out]
              exact ⟨_, rfl, RSlice.mkNil, HK0.out⟩
          · obtain ⟨bn, rfl⟩ := Int.eq_ofNat_of_zero_le (by omega : 0 ≤ budget)
            have g3a : decide ((bn : Int) < 1) = false := by simp; omega
            have g3b : bn ≤ 1048576 := by omega
            have g3c : decide ((1048576 : Int) < (bn : Int)) = false := by simp; omega
            have Q : Hid (identify ps exp occ bn = match search exp occ bn ps [] [] ⟨0, 0, 0, []⟩ with
              | (false, _) => ([], 0, 15)
              | (true, s) => if s.found = 0 then ([], s.steps, 6) else if 1 < s.found then ([], s.steps, 13) else (s.best, s.steps, 0)) := by
              show identify ps exp occ bn = _
              simp only [identify, g1, g2, HASC.out, g3]
              simp
              rfl
            have hzk := K1.out.size
            clear g3
            have hv := valid_len g1
            have hgs := good_small g1 g2
            have FX : Hid (IdFix ps exp occ bn) := ⟨by omega, hv.1, fun p hp => (hv.2 p hp).2, hgs.1, hgs.2, g3b⟩
            have HSN : Hid (secsNonneg ps) := valid_secs g1
            clear hv hgs
            go_wp2_with fail
            generalize hW2 : World.alloc (World.drewN w1 n) _ = W2
            have KK : Hid (KeepsAll w1 W2) := by subst hW2; exact ((Keeps.refl _ _).drewN _).alloc _
            have ST : Hid (SkSt W2 w1.heap.size A c ps A2 c2 exp A3 c3 occ bn [] (.slice none 0 0) ⟨0, 0, 0, []⟩) := by
              refine ⟨⟨.slice none 0 0, by subst hW2; exact Blk.new' _ _ _ rfl, RSlice.mkNil⟩, OwnL.nil, ?_, ?_, ?_, by simp, by simp⟩
              · exact KK.out.rd RPaths.ok H1.out (fun b hb => by have : b < w.heap.size := hb; exact ⟨by omega, by simp⟩) (fun b hb => by have : b < w.heap.size := hb; show b < _; omega)
              · exact KK.out.rd RInts.ok H21.out (fun b hb => by have : b < w.heap.size := hb; exact ⟨by omega, by simp⟩) (fun b hb => by have : b < w.heap.size := hb; show b < _; omega)
              · exact KK.out.rd RInts.ok H31.out (fun b hb => by have : b < w.heap.size := hb; exact ⟨by omega, by simp⟩) (fun b hb => by have : b < w.heap.size := hb; show b < _; omega)
            clear hW2
            have HSE : Hid (heldOf ps [] = []) := by show heldOf ps [] = []; cases ps <;> rfl
            refine (rassign_any w1.heap.size A c ps A2 c2 exp A3 c3 occ bn FX.out HSN.out ps W2 [] (.slice none 0 0) ⟨0, 0, 0, []⟩ (by simp) (by simp) (by simp) (by simp) (by simp) ST.out).mono ?_
            rintro e w4 ⟨rfl, k4, h4⟩
            rw [HSE.out] at h4 ⊢
            generalize hR4 : search exp occ bn ps [] [] ⟨0, 0, 0, []⟩ = R4 at h4
            rw [hR4] at Q
            clear hR4
            obtain ⟨ok4, s4⟩ := R4
            have KF : Hid (KeepsAll w w4) := (K1.out.trans KK.out (fun _ _ h => h)).trans k4 (fun x hx e => by omega)
            clear k4
            cases ok4 with
            | false =>
              clear h4
              go_wp2
              go_ret3
              rw [Q.out]
              exact ⟨_, rfl, RSlice.mkNil, KF.out⟩
            | true =>
              obtain ⟨vat4, h4⟩ := h4 rfl
              obtain ⟨vb4, hb4, hbest4⟩ := h4.blk
              have m4 := hb4.cell 4
              have m6 := hb4.cell 6
              have m8 := hb4.cell 8
              simp at m4 m6 m8
              simp only [] at Q
              have hbs : ∃ Ab cb, vb4 = .slice Ab s4.best.length cb := by obtain ⟨Ab, cb, he, _⟩ := hbest4; injection he with he _; exact ⟨Ab, cb, he⟩
              obtain ⟨Ab, cb, rfl⟩ := hbs
              have HB4 := Lib.hid hbest4
              clear hb4 hbest4 h4
              by_cases g5 : s4.found = 0
              · have Q2 : Hid (identify ps exp occ bn = ([], (s4.steps : Int), 6)) := by rw [Q.out]; simp only [g5]; rfl
                have g5' : ((s4.found : Int) == 0) = true := by simp; omega
                clear Q g5
                go_wp2
                go_quiet (fail)
                go_wp2
                go_ret3
                rw [Q2.out]
                exact ⟨_, rfl, RSlice.mkNil, KF.out.drewN _⟩
              · have g5' : ((s4.found : Int) == 0) = false := by simp; omega
                by_cases g6 : 1 < s4.found
                · have Q2 : Hid (identify ps exp occ bn = ([], (s4.steps : Int), 13)) := by
                    rw [Q.out]
                    rw [if_neg g5, if_pos (by omega)]; rfl
                  clear Q g5
                  go_wp2
                  go_quiet (fail)
                  go_wp2
                  go_ret3
                  rw [Q2.out]
                  exact ⟨_, rfl, RSlice.mkNil, KF.out.drewN _⟩
                · have g6' : decide ((s4.found : Int) > 1) = false := by simp; omega
                  have Q2 : Hid (identify ps exp occ bn = (s4.best, (s4.steps : Int), 0)) := by
                    rw [Q.out]
                    rw [if_neg g5, if_neg g6]; rfl
                  clear Q g5
                  go_wp2
                  go_quiet (fail)
                  go_wp2
                  go_ret3
                  rw [Q2.out]
                  exact ⟨_, rfl, RInts.ok.mono HB4.out (fun b hb => ⟨by have := hb.1; omega, hb.2.1⟩) (fun _ _ => rfl), KF.out.drewN _⟩
    · have g2' : good ps exp = false := by simpa using g2
      have Q : Hid (identify ps exp occ budget = ([], 0, 1)) := by show identify ps exp occ budget = _; simp [identify, g2']
      go_wp2_with (go_at_call 26; refine (rGood_any ps exp A A2 c c2 _ (Old w) (Old w) H1.out H21.out).mono ?_; rintro e w2 ⟨rfl, rfl⟩)
      go_ret3
      rw [Q.out]
      exact ⟨_, rfl, RSlice.mkNil, K1.out⟩
  · have g1' : valid ps = false := by simpa using g1
    have Q : Hid (identify ps exp occ budget = ([], 0, 1)) := by show identify ps exp occ budget = _; simp [identify, g1']
    go_enter Tryz.func8, Tryz.ntmps8
    go_wp2_with (go_at_call 25; refine (RefValid_any ps A c w H.out).mono ?_; rintro e w1 ⟨rfl, k1⟩)
    go_ret3
    rw [Q.out]
    exact ⟨_, rfl, RSlice.mkNil, k1⟩

end Go.Proofs.YtbfgmbakeofcbaaGreat
