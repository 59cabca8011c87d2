/- Contract of takeover.Identify. Conditions: as the theorem says. -/
import Derived.Test.YtbfgmbakeofcbaaGreatK09
namespace Go.Proofs.YtbfgmbakeofcbaaGreat
open Go.RowKit

theorem valid_len {ps : List (List Stage)} (h : valid ps = true) : ps.length ≤ 10 ∧ ∀ p ∈ ps, 1 ≤ p.length ∧ p.length ≤ 64 := by
  simp only [valid, Bool.and_eq_true, decide_eq_true_eq, List.all_eq_true] at h
  refine ⟨h.1.1, fun p hp => ?_⟩
  have := h.1.2 p hp
  simp only [pathOk, Bool.and_eq_true, decide_eq_true_eq] at this
  exact ⟨this.1.1, this.1.2⟩
theorem good_small {ps : List (List Stage)} {at_ : List Int} (hv : valid ps = true) (h : good ps at_ = true) : small at_ ∧ at_.length = ps.length := by
  simp only [good, Bool.and_eq_true, decide_eq_true_eq] at h
  have hl := valid_len hv
  refine ⟨⟨by omega, fun x hx => ?_⟩, h.1⟩
  obtain ⟨t, ht, rfl⟩ := List.getElem_of_mem hx
  have hp : ps[t]? = some ps[t] := List.getElem?_eq_getElem (by omega)
  have := goodFrom_at ps at_ h.2 t ps[t] at_[t] hp (List.getElem?_eq_getElem ht)
  have h2 := hl.2 ps[t] (List.mem_of_getElem? hp)
  simp [okPos] at this
  omega

def AscInv (occ : List Int) (k : Nat) : Prop := ascend occ = ascend (occ.drop (k - 1))
theorem AscInv.step {occ : List Int} {k : Nat} {a b : Int} (h : AscInv occ k) (hk : 0 < k) (ha : occ[k - 1]? = some a) (hb : occ[k]? = some b) (hlt : a < b) : AscInv occ (k + 1) := by
  unfold AscInv at *
  have e1 := drop_cons' ha
  rw [show k - 1 + 1 = k from by omega] at e1
  have e2 := drop_cons' hb
  rw [h, e1, e2, ascend, ← e2, Nat.add_sub_cancel]
  simp [hlt]
theorem AscInv.stop {occ : List Int} {k : Nat} {a b : Int} (h : AscInv occ k) (hk : 0 < k) (ha : occ[k - 1]? = some a) (hb : occ[k]? = some b) (hlt : b ≤ a) : ascend occ = false := by
  unfold AscInv at *
  have e1 := drop_cons' ha
  rw [show k - 1 + 1 = k from by omega] at e1
  have e2 := drop_cons' hb
  rw [h, e1, e2, ascend]
  simp; intro h'; omega
theorem AscInv.done {occ : List Int} (h : AscInv occ occ.length) : ascend occ = true := by
  unfold AscInv at h
  rw [h]
  have : (occ.drop (occ.length - 1)).length ≤ 1 := by simp; omega
  match hd : occ.drop (occ.length - 1), this with
  | [], _ => rfl
  | [a], _ => rfl
def occF (l : List Int) : Int → Option Value := fun k => if k ∈ l then some (.bool true) else none

structure OccInv (w1 wr : World) (A : Option Addr) (c : Nat) (ps : List (List Stage)) (A2 : Option Addr) (c2 : Nat) (exp occ : List Int) (bn k : Nat) : Prop where
  b : Blk wr w1.heap.size 57 #[.slice A ps.length c, .slice A2 exp.length c2, .map (some (w1.heap.size + 1)), .int .i64 occ.length, .int .i64 bn, .int .i64 0, .slice none 0 0, .slice none 0 0, .int .i64 (-1), .bool false]
  m : ∃ ks, MapIs wr (w1.heap.size + 1) ks (occF (occ.take k))
  k : KeepsAll w1 wr
set_option maxRecDepth 100000 in
set_option maxHeartbeats 1000000 in
theorem Identify_any (ps : List (List Stage)) (exp occ : List Int) (budget : Int) (A A2 A3 : Option Addr) (c c2 c3 : Nat) (w : World) (h : RPaths w (Old w) [.slice A ps.length c] ps) (h2 : RInts w (Old w) [.slice A2 exp.length c2] exp) (h3 : RInts w (Old w) [.slice A3 occ.length c3] occ) :
    Calls Tryz.prog 7 #[.slice A ps.length c, .slice A2 exp.length c2, .slice A3 occ.length c3, .int .i64 budget] w fun e w' => ∃ v, e = .returned (.tuple #[v, .int .i64 (identify ps exp occ budget).2.1, .int .i64 (identify ps exp occ budget).2.2]) ∧ RInts w' (Fresh w w') [v] (identify ps exp occ budget).1 ∧ KeepsAll w w' := by
  have hc := h.caps
  have hc2 := h2.caps
  have hc3 := h3.caps
  have H := Lib.hid h; clear h
  have H2 := Lib.hid h2; clear h2
  have H3 := Lib.hid h3; clear h3
  have hmm := @run_makeMap Tryz.prog
  by_cases g1 : valid ps = true
  · go_enter Tryz.func7, Tryz.ntmps7
    go_wp2_with fail
    refine (Valid_any ps A c w H.out).mono ?_
    rintro e w1 ⟨rfl, k1⟩
    have H1 := Lib.hid (k1.rd RPaths.ok H.out (fun b hb => ⟨hb, by simp⟩) (fun _ h => h))
    have H21 := Lib.hid (k1.rd RInts.ok H2.out (fun b hb => ⟨hb, by simp⟩) (fun _ h => h))
    have H31 := Lib.hid (k1.rd RInts.ok H3.out (fun b hb => ⟨hb, by simp⟩) (fun _ h => h))
    have K1 := Lib.hid k1; clear k1
    by_cases g2 : good ps exp = true
    · go_wp2_with (go_at_call 23; refine (tgood_any ps exp A A2 c c2 _ (Old w) (Old w) H1.out H21.out).mono ?_; rintro e w2 ⟨rfl, rfl⟩)
      go_loop [27] (fun i => ∃ k : Nat, k ≤ occ.length ∧ i = .int .i64 k ∧ AscInv occ k) (fun i => occ.length - (intOf i).toNat)
      case atStart => exact ⟨0, Nat.zero_le _, rfl, rfl⟩
      case round =>
        obtain ⟨k, hk, rfl, hasc⟩ := hrel
        by_cases hlt : k < occ.length
        · obtain ⟨b, o, x, rfl, _, hx, k1⟩ := H31.out.at_ hlt
          by_cases hk0 : 0 < k
          · obtain ⟨b', o', y, hbo, _, hy, k2⟩ := H31.out.at_ (k := k - 1) (by omega)
            injection hbo with hbo; injection hbo with hbo1 hbo2; subst hbo1 hbo2
            by_cases hxy : x ≤ y
            · have Q : Hid (identify ps exp occ budget = ([], 0, 1)) := by show identify ps exp occ budget = _; simp [identify, g1, g2, hasc.stop hk0 hy hx hxy]
              clear hx hy
              go_wp2
              go_ret3
              rw [Q.out]
              exact ⟨_, rfl, RSlice.mkNil, K1.out⟩
            · have Q := Lib.hid (hasc.step hk0 hy hx (by omega))
              clear hx hy
              go_wp2
              go_round
              case rel => exact ⟨k + 1, by omega, by go_num, Q.out⟩
              case measure => simp [intOf]; omega
          · have hk1 : k < 1 := by omega
            have Q : Hid (AscInv occ (k + 1)) := by
              have : k = 0 := by omega
              subst this; exact hasc
            clear hx
            go_wp2
            go_round
            case rel => exact ⟨k + 1, by omega, by go_num, Q.out⟩
            case measure => simp [intOf]; omega
        · obtain rfl : k = occ.length := by omega
          have HASC := Lib.hid hasc.done; clear hasc
          by_cases g3 : budget < 1 ∨ 1048576 < budget
          · have Q : Hid (identify ps exp occ budget = ([], 0, 4)) := by show identify ps exp occ budget = _; simp [identify, g1, g2, HASC.out, g3]
            rcases g3 with g3 | g3
            · go_wp2
              go_ret3
              rw [Q.out]
              exact ⟨_, rfl, RSlice.mkNil, K1.out⟩
            · have g3' : decide (budget < 1) = false := by simp; omega
              go_wp2
              go_ret3
              rw [Q.out]
              exact ⟨_, rfl, RSlice.mkNil, K1.out⟩
          · obtain ⟨bn, rfl⟩ := Int.eq_ofNat_of_zero_le (by omega : 0 ≤ budget)
            have g3a : decide ((bn : Int) < 1) = false := by simp; omega
            have g3b : bn ≤ 1048576 := by omega
            have g3c : decide ((1048576 : Int) < (bn : Int)) = false := by simp; omega
            have Q : Hid (identify ps exp occ bn = match search exp occ bn ps [] [] ⟨0, 0, 0, []⟩ with
              | (false, _) => ([], 0, 15)
              | (true, s) => if s.found = 0 then ([], s.steps, 6) else if 1 < s.found then ([], s.steps, 13) else (s.best, s.steps, 0)) := by
              show identify ps exp occ bn = _
              simp only [identify, g1, g2, HASC.out, g3]
              simp
              rfl
            have hzk := K1.out.size
            clear g3
            go_wp2
            generalize hW2 : World.alloc (World.alloc w1 _) _ = W2
            have BK : Blk W2 w1.heap.size 57 #[.slice A ps.length c, .slice A2 exp.length c2, .map (some (w1.heap.size + 1)), .int .i64 occ.length, .int .i64 bn, .int .i64 0, .slice none 0 0, .slice none 0 0, .int .i64 (-1), .bool false] := by subst hW2; exact (Blk.new _ _ _).alloc _
            have MK : MapIs W2 (w1.heap.size + 1) [] (occF []) := by
              subst hW2
              have := MapIs.new (w1.alloc (.cells #[.slice A ps.length c, .slice A2 exp.length c2, .map (some (w1.heap.size + 1)), .int .i64 occ.length, .int .i64 bn, .int .i64 0, .slice none 0 0, .slice none 0 0, .int .i64 (-1), .bool false] 57))
              have e : (w1.alloc (.cells #[.slice A ps.length c, .slice A2 exp.length c2, .map (some (w1.heap.size + 1)), .int .i64 occ.length, .int .i64 bn, .int .i64 0, .slice none 0 0, .slice none 0 0, .int .i64 (-1), .bool false] 57)).heap.size = w1.heap.size + 1 := by simp
              rw [e] at this
              have e2 : occF [] = fun _ => none := by funext k; simp [occF]
              rw [e2]; exact this
            have KK : KeepsAll w1 W2 := by subst hW2; exact ((Keeps.refl _ _).alloc _).alloc _
            clear hW2
            go_loopw [63] (fun i wr => ∃ k : Nat, k ≤ occ.length ∧ i = .int .i64 k ∧ OccInv w1 wr A c ps A2 c2 exp occ bn k) (fun i _ => occ.length - (intOf i).toNat)
            case atStart => exact ⟨0, Nat.zero_le _, rfl, ⟨BK, ⟨_, MK⟩, KK⟩⟩
            case round =>
              obtain ⟨k, hk, rfl, hinv⟩ := hrel
              clear BK MK KK
              have hz2 := hinv.k.size
              obtain ⟨ks, hm⟩ := hinv.m
              have hmz := hm.lt
              have m2 := hinv.b.cell 2
              simp at m2
              by_cases hlt : k < occ.length
              · obtain ⟨b, o, x, rfl, hb, hx, k1⟩ := H31.out.at_ hlt
                have k1' := (hinv.k.cell (p := ⟨b, o + k, none⟩) (by have : b < w.heap.size := hb; show b < _; omega) (by simp)).trans k1
                obtain ⟨w3, hrun, hm3, k3, hz3⟩ := hm.update (P := Tryz.prog) (t := 55) (E := 4) Tryz.underlying55 Tryz.underlying3 x (.bool true)
                have HI : Hid (OccInv w1 w3 A c ps A2 c2 exp occ bn (k + 1)) := by
                  have e : setF (occF (occ.take k)) x (.bool true) = occF (occ.take (k + 1)) := by
                    funext y; unfold setF occF
                    rw [List.take_add_one, hx]
                    by_cases hyx : y = x
                    · simp [hyx]
                    · simp [hyx]
                  rw [e] at hm3
                  exact ⟨hinv.b.kept k3 (by omega), ⟨_, hm3⟩, hinv.k.trans k3 (fun y hy e => by omega)⟩
                clear hinv hm hm3 k3 hz3 hx k1
                go_wp2
                go_roundw
                case rel => exact ⟨k + 1, by omega, by go_num, HI.out⟩
                case measure => simp [intOf]; omega
              · obtain rfl : k = occ.length := by omega
                have hv := valid_len g1
                have hgs := good_small g1 g2
                have FX : IdFix ps exp occ bn := ⟨by omega, hv.1, fun p hp => (hv.2 p hp).2, hgs.1, hgs.2, g3b⟩
                have ST : Hid (IdSt wr w1.heap.size A c ps A2 c2 exp occ bn [] [] (.slice none 0 0) ⟨0, 0, 0, []⟩) := by
                  refine ⟨⟨.slice none 0 0, by simpa using hinv.b, RSlice.mkNil⟩, ⟨ks, ?_⟩, OwnL.nil, ?_, ?_, List.nodup_nil, by simp, by simp⟩
                  · have e : freeF occ [] = occF (occ.take occ.length) := by funext y; simp [freeF, occF]
                    rw [e]; exact hm
                  · exact hinv.k.rd RPaths.ok H1.out (fun b hb => by have : b < w.heap.size := hb; exact ⟨by omega, by simp⟩) (fun b hb => by have : b < w.heap.size := hb; show b < _; omega)
                  · exact hinv.k.rd RInts.ok H21.out (fun b hb => by have : b < w.heap.size := hb; exact ⟨by omega, by simp⟩) (fun b hb => by have : b < w.heap.size := hb; show b < _; omega)
                have HFX := Lib.hid FX
                have HKI := Lib.hid hinv.k
                clear hinv hm m2 hv hgs FX
                go_wp2_with fail
                refine (assign_any w1.heap.size A c ps A2 c2 exp occ bn HFX.out ps 0 wr [] [] (.slice none 0 0) ⟨0, 0, 0, []⟩ (by simp) (by omega) rfl (by simp) (by simp) ST.out).mono ?_
                rintro e w4 ⟨rfl, k4, vat4, h4⟩
                generalize hR4 : search exp occ bn ps [] [] ⟨0, 0, 0, []⟩ = R4 at h4
                rw [hR4] at Q
                have HR4 := Lib.hid hR4; clear hR4
                obtain ⟨ok4, s4⟩ := R4
                have KF : Hid (KeepsAll w w4) := (K1.out.trans HKI.out (fun _ _ h => h)).trans k4 (fun x hx e => by omega)
                obtain ⟨vb4, hb4, hbest4⟩ := h4.blk
                have m5 := hb4.cell 5
                have m7 := hb4.cell 7
                have m8 := hb4.cell 8
                have m9 := hb4.cell 9
                simp at m5 m7 m8 m9
                have hsum := h4.sums
                clear hb4 k4
                cases ok4 with
                | false =>
                  go_wp2
                  go_ret3
                  rw [Q.out]
                  exact ⟨_, rfl, RSlice.mkNil, KF.out⟩
                | true =>
                  simp only [] at Q
                  by_cases g5 : s4.found = 0
                  · have e8 : (if s4.found = 0 then (-1 : Int) else s4.sum) = -1 := by simp [g5]
                    rw [e8] at m8
                    have Q2 : Hid (identify ps exp occ bn = ([], (s4.steps : Int), 6)) := by rw [Q.out]; simp only [g5]; rfl
                    clear Q e8 hsum g5
                    go_wp2
                    go_quiet (fail)
                    go_wp2
                    go_ret3
                    rw [Q2.out]
                    exact ⟨_, rfl, RSlice.mkNil, KF.out.drewN _⟩
                  · have e8 : (if s4.found = 0 then (-1 : Int) else s4.sum) = s4.sum := by simp [g5]
                    rw [e8] at m8
                    have hs0 := (hsum g5).1
                    by_cases g6 : s4.found = 1
                    · have e9 : decide (s4.found = 1) = true := by simpa using g6
                      rw [e9] at m9
                      have Q2 : Hid (identify ps exp occ bn = (s4.best, (s4.steps : Int), 0)) := by rw [Q.out]; simp only [g6]; rfl
                      obtain ⟨Ab, cb, hvb, _⟩ := hbest4
                      injection hvb with hvb _
                      subst hvb
                      have HB4 := Lib.hid h4.blk
                      obtain ⟨vb5, hb5, hbest5⟩ := h4.blk
                      have m7' := hb5.cell 7
                      simp at m7'
                      have ee : Value.slice Ab s4.best.length cb = vb5 := by rw [m7] at m7'; injection m7'
                      subst ee
                      have HB5 := Lib.hid hbest5
                      have hw1 := K1.out.size
                      clear Q e8 e9 hsum g5 g6 hb5 hbest5 m7' HB4 h4
                      go_wp2
                      go_quiet (fail)
                      go_wp2
                      go_ret3
                      rw [Q2.out]
                      exact ⟨_, rfl, RInts.ok.mono HB5.out (fun b hb => ⟨by have := hb.1; omega, hb.2.1⟩) (fun _ _ => rfl), KF.out.drewN _⟩
                    · have e9 : decide (s4.found = 1) = false := by simpa using g6
                      rw [e9] at m9
                      have Q2 : Hid (identify ps exp occ bn = ([], (s4.steps : Int), 13)) := by
                        rw [Q.out]
                        rw [if_neg g5, if_pos (by omega)]; rfl
                      clear Q e8 e9 hsum g5 g6
                      go_wp2
                      go_quiet (fail)
                      go_wp2
                      go_ret3
                      rw [Q2.out]
                      exact ⟨_, rfl, RSlice.mkNil, KF.out.drewN _⟩
    · have g2' : good ps exp = false := by simpa using g2
      have Q : Hid (identify ps exp occ budget = ([], 0, 1)) := by show identify ps exp occ budget = _; simp [identify, g2']
      go_wp2_with (go_at_call 23; refine (tgood_any ps exp A A2 c c2 _ (Old w) (Old w) H1.out H21.out).mono ?_; rintro e w2 ⟨rfl, rfl⟩)
      go_ret3
      rw [Q.out]
      exact ⟨_, rfl, RSlice.mkNil, K1.out⟩
  · have g1' : valid ps = false := by simpa using g1
    have Q : Hid (identify ps exp occ budget = ([], 0, 1)) := by show identify ps exp occ budget = _; simp [identify, g1']
    go_enter Tryz.func7, Tryz.ntmps7
    go_wp2_with (go_at_call 22; refine (Valid_any ps A c w H.out).mono ?_; rintro e w1 ⟨rfl, k1⟩)
    go_ret3
    rw [Q.out]
    exact ⟨_, rfl, RSlice.mkNil, k1⟩

end Go.Proofs.YtbfgmbakeofcbaaGreat
