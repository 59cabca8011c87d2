/- Contract of takeover.Orders at made paths: it returns takeP. Conditions: as the theorem says. Contracts of the reference's blocker and movable. Conditions: as each theorem says. -/
import Derived.Test.YtbfgmbakeofcbaaGreatK45
import Derived.Test.YtbfgmbakeofcbaaGreatK38
import Derived.Test.YtbfgmbakeofcbaaGreatK07
namespace Go.Proofs.YtbfgmbakeofcbaaGreat
open Go.RowKit

set_option maxRecDepth 100000 in
set_option maxHeartbeats 4000000 in
theorem TOrders_any (ps : List (List Stage)) (os : List Order) (at_ : List Int) (budget : Int) (A A2 A3 : Option Addr) (c c2 c3 : Nat) (w : World) (hm : psMade ps) (h : RPaths w (Old w) [.slice A ps.length c] ps) (h2 : ROrders w (Old w) [.slice A2 os.length c2] os) (h3 : RInts w (Old w) [.slice A3 at_.length c3] at_) :
    Calls Tryz.prog 9 #[.slice A ps.length c, .slice A2 os.length c2, .slice A3 at_.length c3, .int .i64 budget] w fun e w' => ∃ v, e = .returned (.tuple #[v, .int .i64 (takeP ps os at_ budget).2.1, .int .i64 (takeP ps os at_ budget).2.2]) ∧ ROrders w' (Old w') [v] (takeP ps os at_ budget).1 ∧ KeepsAll w w' := by
  cases g0 : checkO ps os with
  | false =>
    have HCK := Lib.hid (Check_any ps os A A2 c c2 w h h2)
    have Q : Hid (takeP ps os at_ budget = ([], 0, 1)) := by show _ = _; unfold takeP; rw [if_pos g0]
    rw [g0] at HCK
    clear h h2 h3 g0 hm
    go_enter Tryz.func9, Tryz.ntmps9
    go_wp2_with fail
    refine HCK.out.mono ?_
    rintro e w1 ⟨rfl, k1⟩
    have K1 := Lib.hid k1; clear k1 HCK
    go_wp2
    go_ret3
    rw [Q.out]
    exact ⟨_, rfl, RSlice.mkNil, K1.out⟩
  | true =>
    by_cases g1 : checkState ps at_ = 0
    · by_cases g2 : budget < 1 ∨ 1048576 < budget
      · have HCK := Lib.hid (Check_any ps os A A2 c c2 w h h2)
        have Q : Hid (takeP ps os at_ budget = ([], 0, 4)) := by show _ = _; unfold takeP; rw [if_neg (by simp [g0]), if_neg (by simpa using g1), if_pos g2]
        rw [g0] at HCK
        have H := Lib.hid h; have H3 := Lib.hid h3
        have HC := Lib.hid g1
        clear h h2 h3 g0 g1 hm
        by_cases g3 : budget < 1
        · have b1 : decide (budget < 1) = true := by simpa using g3
          clear g2 g3
          go_enter Tryz.func9, Tryz.ntmps9
          go_wp2_with fail
          refine HCK.out.mono ?_
          rintro e w1 ⟨rfl, k1⟩
          have K1 := Lib.hid k1; clear k1 HCK
          go_wp2_with fail
          refine (DCheck_any ps at_ A A3 c c3 w1 (K1.out.rdo' RPaths.ok H.out) (K1.out.rdo' RInts.ok H3.out)).mono ?_
          rintro e w2 ⟨rfl, k2⟩
          rw [HC.out]
          have K2 := Lib.hid (K1.out.tr k2); clear k2 K1
          go_wp2
          go_ret3
          rw [Q.out]
          exact ⟨_, rfl, RSlice.mkNil, K2.out⟩
        · have b1 : decide (budget < 1) = false := by simpa using g3
          have b2 : decide (budget > 1048576) = true := by simp; omega
          clear g2 g3
          go_enter Tryz.func9, Tryz.ntmps9
          go_wp2_with fail
          refine HCK.out.mono ?_
          rintro e w1 ⟨rfl, k1⟩
          have K1 := Lib.hid k1; clear k1 HCK
          go_wp2_with fail
          refine (DCheck_any ps at_ A A3 c c3 w1 (K1.out.rdo' RPaths.ok H.out) (K1.out.rdo' RInts.ok H3.out)).mono ?_
          rintro e w2 ⟨rfl, k2⟩
          rw [HC.out]
          have K2 := Lib.hid (K1.out.tr k2); clear k2 K1
          go_wp2
          go_ret3
          rw [Q.out]
          exact ⟨_, rfl, RSlice.mkNil, K2.out⟩
      · have hb : 1 ≤ budget ∧ budget ≤ 1048576 := by omega
        cases g3 : okP ps os at_ with
        | true =>
          have e : takeP ps os at_ budget = (restP ps os at_, 0, 0) := by unfold takeP; rw [if_neg (by simp [g0]), if_neg (by simpa using g1), if_neg g2, if_pos g3]
          rw [e]
          exact TOrders_line ps os at_ budget A A2 A3 c c2 c3 w h h2 h3 g0 g1 hb g3
        | false =>
          by_cases g4 : (searchP ps at_ budget).2.2 = 0
          · have e : takeP ps os at_ budget = ((restP ps os at_).map (sortTO (entL ps at_ (searchP ps at_ budget).1)), (searchP ps at_ budget).2.1, 0) := by unfold takeP; rw [if_neg (by simp [g0]), if_neg (by simpa using g1), if_neg g2, if_neg (by simp [g3]), if_neg (by simpa using g4)]
            rw [e]
            exact TOrders_moves ps os at_ budget A A2 A3 c c2 c3 w hm h h2 h3 g0 g1 hb g3 g4
          · have HCK := Lib.hid (Check_any ps os A A2 c c2 w h h2)
            have Q0 : Hid (takeP ps os at_ budget = ([], 0, (searchP ps at_ budget).2.2)) := by show _ = _; unfold takeP; rw [if_neg (by simp [g0]), if_neg (by simpa using g1), if_neg g2, if_neg (by simp [g3]), if_pos (by simpa using g4)]
            obtain ⟨_, hgd, _⟩ := checkState_zero g1
            have HGD := Lib.hid hgd
            have Q : Hid ((lineP ps os at_).2 = false) := by show _ = _; unfold lineP; rw [g0, hgd, g3]; rfl
            have HSR := Lib.hid (DSearch_any ps at_ budget A A3 c c3)
            have HC := Lib.hid g1
            rw [g0] at HCK
            have g4' : ((searchP ps at_ budget).2.2 != 0) = true := by simpa using g4
            have H := Lib.hid h; have H2 := Lib.hid h2; have H3 := Lib.hid h3
            have b1 : decide (budget < 1) = false := by simp; omega
            have b2 : decide (budget > 1048576) = false := by simp; omega
            generalize (searchP ps at_ budget).1 = mv at *
            generalize (searchP ps at_ budget).2.1 = sn at *
            generalize (searchP ps at_ budget).2.2 = sc at *
            clear h h2 h3 g0 g1 g2 g3 g4 hm hgd
            go_enter Tryz.func9, Tryz.ntmps9
            go_wp2_with fail
            refine HCK.out.mono ?_
            rintro e w1 ⟨rfl, k1⟩
            have K1 := Lib.hid k1; clear k1 HCK
            go_wp2_with fail
            refine (DCheck_any ps at_ A A3 c c3 w1 (K1.out.rdo' RPaths.ok H.out) (K1.out.rdo' RInts.ok H3.out)).mono ?_
            rintro e w2 ⟨rfl, k2⟩
            rw [HC.out]
            have K2 := Lib.hid (K1.out.tr k2); clear k2 K1
            go_wp2_with fail
            refine (Rest_any ps os at_ A A2 A3 c c2 c3 w2 (K2.out.rdo' RPaths.ok H.out) (K2.out.rdo' ROrders.ok H2.out) (K2.out.rdo' RInts.ok H3.out)).mono ?_
            rintro e w3 ⟨v3, rfl, r3, k3⟩
            have K3 := Lib.hid (K2.out.tr k3)
            clear k3 r3 K2
            go_wp2_with fail
            refine (Line_any ps os at_ A A2 A3 c c2 c3 w3 (K3.out.rdo' RPaths.ok H.out) (K3.out.rdo' ROrders.ok H2.out) (K3.out.rdo' RInts.ok H3.out)).mono ?_
            rintro e w4 ⟨v4, rfl, r4, k4⟩
            rw [Q.out]
            have K4 := Lib.hid (K3.out.tr k4)
            clear k4 r4 K3
            go_wp2_with fail
            refine (HSR.out w4 (K4.out.rdo' RPaths.ok H.out) (K4.out.rdo' RInts.ok H3.out)).mono ?_
            rintro e w5 ⟨v5, rfl, r5, k5⟩
            have K5 := Lib.hid (K4.out.tr k5)
            clear k5 r5 K4 HSR
            go_wp2
            go_ret3
            rw [Q0.out]
            exact ⟨_, rfl, RSlice.mkNil, K5.out⟩
    · have HCK := Lib.hid (Check_any ps os A A2 c c2 w h h2)
      have Q : Hid (takeP ps os at_ budget = ([], 0, checkState ps at_)) := by show _ = _; unfold takeP; rw [if_neg (by simp [g0]), if_pos (by simpa using g1)]
      rw [g0] at HCK
      have g1' : (checkState ps at_ != 0) = true := by simpa using g1
      have HDC := Lib.hid (DCheck_any ps at_ A A3 c c3)
      have H := Lib.hid h; have H3 := Lib.hid h3
      generalize checkState ps at_ = cs at *
      clear h h2 h3 g0 g1 hm
      go_enter Tryz.func9, Tryz.ntmps9
      go_wp2_with fail
      refine HCK.out.mono ?_
      rintro e w1 ⟨rfl, k1⟩
      have K1 := Lib.hid k1; clear k1 HCK
      go_wp2_with fail
      refine (HDC.out w1 (K1.out.rdo' RPaths.ok H.out) (K1.out.rdo' RInts.ok H3.out)).mono ?_
      rintro e w2 ⟨rfl, k2⟩
      have K2 := Lib.hid (K1.out.tr k2); clear k2 K1
      go_wp2
      go_ret3
      rw [Q.out]
      exact ⟨_, rfl, RSlice.mkNil, K2.out⟩

/-- the first other train that holds a section -/
def blkF (ps : List (List Stage)) (now : List Int) (t : Nat) (s : Int) : Option Nat := (List.range ps.length).find? fun u => decide (u ≠ t) && decide (secNow ps now u = s)
def blkP (ps : List (List Stage)) (now : List Int) (t : Nat) : Int := match ((ps[t]?).getD [])[(nowAt now t + 1).toNat]? with
  | none => -1
  | some s => match blkF ps now t s.sec with | none => -1 | some u => (u : Int)
theorem blkP_mv (ps : List (List Stage)) (now : List Int) (t : Nat) : (decide (nowAt now t < lenAt ps t) && decide (blkP ps now t < 0)) = canMv ps now t := by
  unfold canMv
  congr 1
  rw [Bool.eq_iff_iff, decide_eq_true_eq, Bool.not_eq_true']
  unfold blkP blockedB
  cases e : ((ps[t]?).getD [])[(nowAt now t + 1).toNat]? with
  | none => simp
  | some s =>
    simp only []
    cases hf : blkF ps now t s.sec with
    | none =>
      unfold blkF at hf
      have : ((List.range ps.length).any fun u => decide (u ≠ t) && decide (secNow ps now u = s.sec)) = false := by
        rw [List.any_eq_false]
        exact List.find?_eq_none.1 hf
      rw [this]; simp
    | some u =>
      unfold blkF at hf
      have : ((List.range ps.length).any fun u => decide (u ≠ t) && decide (secNow ps now u = s.sec)) = true := List.any_eq_true.2 ⟨u, List.mem_of_find?_eq_some hf, by have h1 := List.find?_some hf; simpa using h1⟩
      rw [this]
      simp
def NoneTo (ps : List (List Stage)) (now : List Int) (t : Nat) (s : Int) (k : Nat) : Prop := ∀ u, u < k → (decide (u ≠ t) && decide (secNow ps now u = s)) = false
theorem NoneTo.stop {ps : List (List Stage)} {now : List Int} {t : Nat} {s : Int} {k : Nat} (h : NoneTo ps now t s k) (hk : k < ps.length) (h1 : k ≠ t) (h2 : secNow ps now k = s) : blkF ps now t s = some k := by
  unfold blkF
  rw [List.find?_range_eq_some]
  refine ⟨by simp [h1, h2], by simpa using hk, fun j hj => ?_⟩
  rw [h j hj]; rfl
theorem NoneTo.done {ps : List (List Stage)} {now : List Int} {t : Nat} {s : Int} (h : NoneTo ps now t s ps.length) : blkF ps now t s = none := by
  unfold blkF
  rw [List.find?_eq_none]
  intro u hu
  rw [h u (List.mem_range.1 hu)]; simp

section
variable (ps : List (List Stage)) (now : List Int) (A A2 : Option Addr) (c c2 : Nat) (w : World) (t : Nat)
set_option maxRecDepth 100000 in
set_option maxHeartbeats 1000000 in
theorem blocker_any (h : RPaths w (Old w) [.slice A ps.length c] ps) (h2 : RInts w (Old w) [.slice A2 now.length c2] now) (hv : valid ps = true) (hg : Gd ps now) (ht : t < ps.length) (hlt : nowAt now t < lenAt ps t) :
    Calls Tryz.prog 112 #[.slice A ps.length c, .slice A2 now.length c2, .int .i64 (t : Int)] w fun e w' => e = .returned (.int .i64 (blkP ps now t)) ∧ KeepsAll w w' := by
  have hc := h.caps
  have hc2 := h2.caps
  have H := Lib.hid h
  have H2 := Lib.hid h2
  have HG := Lib.hid hg
  have hnl : now.length = ps.length := hg.1
  have al1 : now.length ≤ ps.length := by omega
  have al2 : ps.length ≤ now.length := by omega
  obtain ⟨b, o, p, A', c', hbo, hbl, hp, k1, hr⟩ := RSS.atK (Keeps.refl _ _) h ht
  subst hbo
  obtain ⟨b2, o2, a, hbo, hb2l, ha, k2⟩ := RInts.atK (Keeps.refl _ _) h2 (k := t) (by omega)
  subst hbo
  have hcp := hr.caps
  have hG := hg.2 t ht
  have h64 := lenAt_le hv t
  rw [lenAt_of hp] at hG h64 hlt
  rw [nowAt_of ha] at hG hlt
  have HBP : Hid (blkP ps now t = match p[(a + 1).toNat]? with | none => -1 | some s => match blkF ps now t s.sec with | none => -1 | some u => (u : Int)) := by show _ = _; unfold blkP; rw [hp, nowAt_of ha]; rfl
  have hw2 : IntKind.i64.wrap (a + 1) = a + 1 := IntWalk.i64_in _ (by omega)
  obtain ⟨k, hk⟩ := Int.eq_ofNat_of_zero_le (by omega : 0 ≤ a + 1)
  rw [hk] at hw2
  by_cases g1 : k < p.length
  · have g1' : decide (p.length ≤ k) = false := by simp; omega
    obtain ⟨b3, o3, s, As, cs, hbo, hb3l, hs, m0, m1, m2, m3, hpts⟩ := RPath.atK (Keeps.refl _ _) hr g1
    subst hbo
    rw [hk, Int.toNat_natCast, hs] at HBP
    simp only [] at HBP
    clear h h2 hg hr hpts hs hp ha m1 m2 m3 hnl
    generalize s.sec = sv at *
    go_enter Tryz.func112, Tryz.ntmps112
    go_wp2
    go_quiet (fail)
    go_wp2
    go_quiet (fail)
    go_wp2
    generalize hWx : World.drewN w _ = wx
    have KX : Hid (KeepsAll w wx) := by subst hWx; exact (Keeps.refl _ _).drewN _
    clear hWx k1 k2 m0 hbl hb2l hb3l
    go_loopw [34] (fun v wr => ∃ j : Nat, j ≤ ps.length ∧ v = .int .i64 (j : Int) ∧ NoneTo ps now t sv j ∧ KeepsAll w wr) (fun v _ => ps.length - (intOf v).toNat)
    case atStart => exact ⟨0, Nat.zero_le _, rfl, fun u hu => by omega, KX.out⟩
    case round =>
      clear KX
      obtain ⟨j, hj, rfl, hno, hkr⟩ := hrel
      have KR := Lib.hid hkr
      have HNO := Lib.hid hno
      clear hno hkr
      by_cases hlj : j < ps.length
      · have hdj : decide ((j : Int) < (ps.length : Int)) = true := by simp; omega
        by_cases g2 : j = t
        · have g2' : ((j : Int) != (t : Int)) = false := by simp; omega
          have HN : Hid (NoneTo ps now t sv (j + 1)) := fun u hu => by
            by_cases e : u = j
            · subst e; simp [g2]
            · exact HNO.out u (by omega)
          clear g2
          go_wp2
          go_roundw
          case rel => exact ⟨j + 1, by omega, by go_num, HN.out, KR.out⟩
          case measure => simp [intOf]; omega
        · have g2' : ((j : Int) != (t : Int)) = true := by simp; omega
          have hq : ps[j]? = some ps[j] := List.getElem?_eq_getElem hlj
          have hb : now[j]? = some (now[j]'(by omega)) := List.getElem?_eq_getElem _
          have HSC := Lib.hid (Section_any ps now (some ⟨b, o, none⟩) (some ⟨b2, o2, none⟩) c c2 wr (Old wr) (Old wr) (KR.out.rdo' RPaths.ok H.out) (KR.out.rdo' RInts.ok H2.out) j _ _ hq hb)
          have HSN : Hid (secNow ps now j = secAt ps[j] (now[j]'(by omega))) := by show _ = _; unfold secNow; rw [hq, nowAt_of hb]; rfl
          rw [← HSN.out] at HSC
          clear hq hb HSN
          go_wp2_with fail
          refine HSC.out.mono ?_
          rintro e w3 ⟨rfl, n3, rfl⟩
          clear HSC
          by_cases g3 : secNow ps now j = sv
          · have g3' : (secNow ps now j == sv) = true := by simpa using g3
            have Q : Hid (blkP ps now t = (j : Int)) := by show _ = _; rw [HBP.out, HNO.out.stop hlj g2 g3]
            clear g3 g2 HNO
            generalize secNow ps now j = sj at *
            go_wp2
            go_ret
            exact ⟨by rw [Q.out]; rfl, KR.out.drewN _⟩
          · have g3' : (secNow ps now j == sv) = false := by simpa using g3
            have HN : Hid (NoneTo ps now t sv (j + 1)) := fun u hu => by
              by_cases e : u = j
              · subst e; simp [g3]
              · exact HNO.out u (by omega)
            clear g3 g2 HNO
            go_wp2
            go_roundw
            case rel => exact ⟨j + 1, by omega, by go_num, HN.out, KR.out.drewN _⟩
            case measure => simp [intOf]; omega
      · obtain rfl : j = ps.length := by omega
        have hdj : decide ((ps.length : Int) < (ps.length : Int)) = false := by simp
        have Q : Hid (blkP ps now t = -1) := by show _ = _; rw [HBP.out, HNO.out.done]
        go_wp2
        go_ret
        exact ⟨by rw [Q.out]; rfl, KR.out⟩
  · have g1' : decide (p.length ≤ k) = true := by simp; omega
    have Q : Hid (blkP ps now t = -1) := by show _ = _; rw [HBP.out, List.getElem?_eq_none (by omega)]
    clear h h2 hg hr hp ha HBP hnl
    go_enter Tryz.func112, Tryz.ntmps112
    go_wp2
    go_quiet (fail)
    go_wp2
    go_ret
    exact ⟨by rw [Q.out]; rfl, (Keeps.refl _ _).drewN _⟩
set_option maxRecDepth 100000 in
set_option maxHeartbeats 1000000 in
theorem movable_any (h : RPaths w (Old w) [.slice A ps.length c] ps) (h2 : RInts w (Old w) [.slice A2 now.length c2] now) (hv : valid ps = true) (hg : Gd ps now) (ht : t < ps.length) :
    Calls Tryz.prog 97 #[.slice A ps.length c, .slice A2 now.length c2, .int .i64 (t : Int)] w fun e w' => e = .returned (.bool (canMv ps now t)) ∧ KeepsAll w w' := by
  have hc := h.caps
  have hc2 := h2.caps
  have hnl : now.length = ps.length := hg.1
  have al1 : now.length ≤ ps.length := by omega
  have al2 : ps.length ≤ now.length := by omega
  have HM := Lib.hid (blkP_mv ps now t)
  have HB : Hid (∀ W, KeepsAll w W → nowAt now t < lenAt ps t → _) := fun W hW hl => blocker_any ps now A A2 c c2 W t (hW.rdo' RPaths.ok h) (hW.rdo' RInts.ok h2) hv hg ht hl
  obtain ⟨b, o, p, A', c', hbo, hbl, hp, k1, hr⟩ := RSS.atK (Keeps.refl _ _) h ht
  subst hbo
  obtain ⟨b2, o2, a, hbo, hb2l, ha, k2⟩ := RInts.atK (Keeps.refl _ _) h2 (k := t) (by omega)
  subst hbo
  have hcp := hr.caps
  rw [lenAt_of hp, nowAt_of ha] at HM HB
  clear h h2 hr hp ha hnl hg
  by_cases g1 : a < (p.length : Int)
  · have g1' : decide (a < (p.length : Int)) = true := by simpa using g1
    have HB2 : Hid (∀ W, KeepsAll w W → _) := fun W hW => HB.out W hW g1
    rw [g1'] at HM
    clear HB g1
    generalize blkP ps now t = z at *
    go_enter Tryz.func97, Tryz.ntmps97
    go_wp2
    refine wp_region_lex (fun w' => ∃ x : Ext w, w' = x.val) [0, 1, 2, 3, 4, 5, 6, 7, 8, 9, 10, 11, 12, 13, 14, 15, 16, 17] (by kernel_rfl) (by kernel_rfl) ⟨⟨_, (Keeps.refl _ _).drew⟩, rfl⟩ ?_
    have x1 := Ext.cell k1
    have x2 := Ext.cell k2
    iterate 14 (refine lex_q _ rfl rfl rfl ?_; go_big_quiet_step (fail); refine wpQuiet_nil ?_)
    refine lex_a _ rfl rfl true (by kernel_rfl) ?_
    go_wp2_with (go_at_call 112; refine (HB2.out _ ((Keeps.refl _ _).drew)).mono ?_; rintro e w6 ⟨rfl, HK6⟩)
    have K6 : KeepsAll w w6 := ((Keeps.refl _ _).drew).tr HK6
    refine ⟨fun _ => ⟨⟨_, K6⟩, rfl⟩, ?_⟩
    have K6' := Lib.hid K6
    clear K6 HK6
    iterate 3 (refine lex_q _ rfl rfl rfl ?_; go_big_quiet_step (fail); refine wpQuiet_nil ?_)
    simp only [wpLex]
    refine NoPanic.normal ?_
    go_wp2
    go_ret
    exact ⟨by rw [← HM.out]; rfl, K6'.out⟩
  · have g1' : decide (a < (p.length : Int)) = false := by simpa using g1
    rw [g1'] at HM
    clear HB g1
    go_enter Tryz.func97, Tryz.ntmps97
    go_wp2
    go_quiet (fail)
    go_wp2
    go_ret
    exact ⟨by rw [← HM.out]; rfl, (Keeps.refl _ _).drewN _⟩
end
end Go.Proofs.YtbfgmbakeofcbaaGreat
